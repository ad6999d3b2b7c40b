/-
  Texts of this claim, one after the other: what each proves is said at its head. No condition beyond those that its theorems name.
-/
import Derived.Test.YtahaimecchdfeaaProg
import Derived.Laws.EntriesVeiled
import Derived.Maps.OwnSet
import Derived.Maps.Views
import Derived.WideKeyEntry
import Derived.DeepKeys4
import Derived.Deep.DeepCutAuto
import Derived.Deep.RegionHeld3
import Derived.Test.YtahaimecchdfeaaH01

/-
  Walks of package runs: the closures of Check, ContainsFunc over rows of ints and over uint64s.
-/
namespace Go.Proofs.Ytahaimecchdfeaa
open Go.RowKit

theorem ck1_any (A : Option Addr) (m c : Nat) (a : Int) (bs : Nat) (w : World) (hc : w.cell? ⟨bs, 0, none⟩ = some (.int .i64 a)) :
    Calls Try.prog 95 #[.slice A m c, .pointer (some ⟨bs, 0, none⟩)] w fun e w' => e = .returned (.bool ((m : Int) != a)) ∧ w = w' := by
  go_enter Try.func95, Try.ntmps95
  go_wp2_with fail
  go_ret
  exact ⟨rfl, rfl⟩
theorem shr_zero (F f : Nat) (hf : f ≤ 64) : (((F : Int) / 2 ^ min f 64) != 0) = decide (2 ^ f ≤ F) := by
  rw [Nat.min_eq_left hf, natCast_shr]
  have h2 : 0 < 2 ^ f := Nat.two_pow_pos f
  rw [Bool.eq_iff_iff, bne_iff_ne, decide_eq_true_eq]
  by_cases h : 2 ^ f ≤ F
  · have := Nat.div_pos h h2
    constructor
    · exact fun _ => h
    · intro _ e; omega
  · have : F / 2 ^ f = 0 := Nat.div_eq_of_lt (by omega)
    rw [this]
    constructor
    · intro e; exact absurd rfl e
    · intro e; exact absurd e h
theorem ck2_any (F f : Nat) (bs : Nat) (w : World) (hf : f ≤ 8) (hc : w.cell? ⟨bs, 1, none⟩ = some (.int .i64 f)) :
    Calls Try.prog 97 #[.int .u64 F, .pointer (some ⟨bs, 0, none⟩)] w fun e w' => e = .returned (.bool (decide (2 ^ f ≤ F))) ∧ w = w' := by
  have h1 := shr_zero F f (by omega)
  rw [Nat.min_eq_left (by omega)] at h1
  have H1 := Lib.hid h1
  clear h1
  go_enter Try.func97, Try.ntmps97
  go_wp2_with fail
  go_ret
  exact ⟨by rw [← H1.out]; rfl, rfl⟩
/-! ### ContainsFunc: by the first element for which it holds -/
def idxP (n : Nat) (p : Nat → Bool) : Int := if firstNo n (fun v => !p v) < n then (firstNo n (fun v => !p v) : Nat) else -1
theorem idxP_hit {n v : Nat} {p : Nat → Bool} (hv : v < n) (h : ∀ i, i < v → p i = false) (hb : p v = true) : idxP n p = (v : Int) := by
  have e := firstNo_hit (p := fun v => !p v) hv (fun i hi => by simp [h i hi]) (by simp [hb])
  unfold idxP; rw [e, if_pos hv]
theorem idxP_none {n : Nat} {p : Nat → Bool} (h : ∀ i, i < n → p i = false) : idxP n p = -1 := by
  have e := firstNo_all (p := fun v => !p v) (n := n) (fun i hi => by simp [h i hi])
  unfold idxP; rw [e, if_neg (Nat.lt_irrefl _)]
theorem idxP_ge (n : Nat) (p : Nat → Bool) : decide (0 ≤ idxP n p) = !allB n (fun v => !p v) := by
  cases ha : allB n (fun v => !p v)
  · obtain ⟨u, hu, hf⟩ := not_allB ha
    obtain ⟨i1, i2, i3⟩ := firstNo_spec n (fun v => !p v)
    have : firstNo n (fun v => !p v) < n := by
      rcases Nat.lt_or_ge (firstNo n (fun v => !p v)) n with h1 | h1
      · exact h1
      · have := i2 u (by omega); rw [hf] at this; cases this
    unfold idxP; rw [if_pos this]; simp
  · rw [idxP_none fun i hi => by simpa using allB_iff.1 ha i hi]; rfl
theorem ckIdx1_any (A : Option Addr) (n c : Nat) (R : Nat → Option Addr) (m cc : Nat → Nat) (L : Nat → Nat → Int) (a : Int) (bs : Nat) (w : World) (hT : MatI w A n R m cc L) (hn : n ≤ 9223372036854775807) (hc : w.cell? ⟨bs, 0, none⟩ = some (.int .i64 a)) :
    Calls Try.prog 131 #[.slice A n c, .func (.func 95) #[] #[.pointer (some ⟨bs, 0, none⟩)]] w fun e w' => e = .returned (.int .i64 (idxP n (fun t => (m t : Int) != a))) ∧ w = w' := by
  have HT := Lib.hid hT
  have HCL := Lib.hid (fun A m c => ck1_any A m c a bs w hc)
  clear hT hc
  go_enter Try.func131, Try.ntmps131
  go_wp2
  go_loop [8] (fun i => ∃ v : Nat, v ≤ n ∧ i = .int .i64 v ∧ Hid (∀ i, i < v → ((m i : Int) != a) = false)) (fun i => n - (intOf i).toNat)
  case atStart => exact ⟨0, Nat.zero_le _, rfl, Lib.hid fun i h => absurd h (Nat.not_lt_zero _)⟩
  case round =>
    obtain ⟨v, hv, rfl, HF⟩ := hrel
    by_cases hlt : v < n
    · obtain ⟨b, off, rfl, c1, hm1, -⟩ := HT.out v hlt
      obtain ⟨x, ex⟩ : ∃ x, x = m v := ⟨_, rfl⟩
      rw [← ex] at c1 hm1
      obtain ⟨R1, eR1⟩ : ∃ x, x = R v := ⟨_, rfl⟩
      obtain ⟨k1, ek1⟩ : ∃ x, x = cc v := ⟨_, rfl⟩
      rw [← eR1, ← ek1] at c1
      have HC1 := Lib.hid (HCL.out R1 x k1)
      have EX := Lib.hid ex
      clear ex eR1 ek1
      cases hb : ((x : Int) != a)
      · rw [hb] at HC1
        have HF2 : Hid (∀ i, i < v + 1 → ((m i : Int) != a) = false) := Lib.hid fun i h => by
          rcases Nat.lt_succ_iff_lt_or_eq.1 h with h3 | rfl
          · exact HF.out i h3
          · rw [← EX.out]; exact hb
        clear hb
        go_wp2_with (go_at_call 95; refine (HC1.out).mono ?_; rintro e w' ⟨rfl, rfl⟩)
        go_round
        case rel => exact ⟨v + 1, by omega, by go_num, HF2⟩
        case measure => simp [intOf]; omega
      · rw [hb] at HC1
        have HI := Lib.hid (idxP_hit (p := fun t => (m t : Int) != a) hlt HF.out (by rw [← EX.out]; exact hb))
        clear hb
        go_wp2_with (go_at_call 95; refine (HC1.out).mono ?_; rintro e w' ⟨rfl, rfl⟩)
        go_ret
        exact ⟨by rw [HI.out]; rfl, rfl⟩
    · obtain rfl : v = n := by omega
      have HI := Lib.hid (idxP_none (p := fun t => (m t : Int) != a) HF.out)
      go_wp2
      go_ret
      exact ⟨by rw [HI.out]; rfl, rfl⟩
theorem ckCon1_any (A : Option Addr) (n c : Nat) (R : Nat → Option Addr) (m cc : Nat → Nat) (L : Nat → Nat → Int) (a : Int) (bs : Nat) (w : World) (hT : MatI w A n R m cc L) (hn : n ≤ 9223372036854775807) (hc : w.cell? ⟨bs, 0, none⟩ = some (.int .i64 a)) :
    Calls Try.prog 94 #[.slice A n c, .func (.func 95) #[] #[.pointer (some ⟨bs, 0, none⟩)]] w fun e w' => e = .returned (.bool (!allB n (fun t => !((m t : Int) != a)))) ∧ w = w' := by
  have HE := Lib.hid (idxP_ge n (fun t => (m t : Int) != a))
  have HI := Lib.hid (ckIdx1_any A n c R m cc L a bs w hT hn hc)
  clear hT hc
  go_enter Try.func94, Try.ntmps94
  go_wp2_with (go_at_call 131; refine (HI.out).mono ?_; rintro e w' ⟨rfl, rfl⟩)
  go_ret
  exact ⟨by rw [← HE.out]; rfl, rfl⟩
theorem ckIdx2_any (A : Option Addr) (n c : Nat) (F : Nat → Nat) (f bs : Nat) (w : World) (hT : U64s w A n F) (hn : n ≤ 9223372036854775807) (hf : f ≤ 8) (hc : w.cell? ⟨bs, 1, none⟩ = some (.int .i64 f)) :
    Calls Try.prog 132 #[.slice A n c, .func (.func 97) #[] #[.pointer (some ⟨bs, 0, none⟩)]] w fun e w' => e = .returned (.int .i64 (idxP n (fun t => decide (2 ^ f ≤ F t)))) ∧ w = w' := by
  have HT := Lib.hid hT
  have HCL := Lib.hid (fun F => ck2_any F f bs w hf hc)
  clear hT hc
  go_enter Try.func132, Try.ntmps132
  go_wp2
  go_loop [8] (fun i => ∃ v : Nat, v ≤ n ∧ i = .int .i64 v ∧ Hid (∀ i, i < v → decide (2 ^ f ≤ F i) = false)) (fun i => n - (intOf i).toNat)
  case atStart => exact ⟨0, Nat.zero_le _, rfl, Lib.hid fun i h => absurd h (Nat.not_lt_zero _)⟩
  case round =>
    obtain ⟨v, hv, rfl, HF⟩ := hrel
    by_cases hlt : v < n
    · obtain ⟨b, off, rfl, c1, hm1⟩ := HT.out v hlt
      obtain ⟨x, ex⟩ : ∃ x, x = F v := ⟨_, rfl⟩
      rw [← ex] at c1 hm1
      have HC1 := Lib.hid (HCL.out x)
      have EX := Lib.hid ex
      clear ex
      cases hb : decide (2 ^ f ≤ x)
      · rw [hb] at HC1
        have HF2 : Hid (∀ i, i < v + 1 → decide (2 ^ f ≤ F i) = false) := Lib.hid fun i h => by
          rcases Nat.lt_succ_iff_lt_or_eq.1 h with h3 | rfl
          · exact HF.out i h3
          · rw [← EX.out]; exact hb
        clear hb
        go_wp2_with (go_at_call 97; refine (HC1.out).mono ?_; rintro e w' ⟨rfl, rfl⟩)
        go_round
        case rel => exact ⟨v + 1, by omega, by go_num, HF2⟩
        case measure => simp [intOf]; omega
      · rw [hb] at HC1
        have HI := Lib.hid (idxP_hit (p := fun t => decide (2 ^ f ≤ F t)) hlt HF.out (by rw [← EX.out]; exact hb))
        clear hb
        go_wp2_with (go_at_call 97; refine (HC1.out).mono ?_; rintro e w' ⟨rfl, rfl⟩)
        go_ret
        exact ⟨by rw [HI.out]; rfl, rfl⟩
    · obtain rfl : v = n := by omega
      have HI := Lib.hid (idxP_none (p := fun t => decide (2 ^ f ≤ F t)) HF.out)
      go_wp2
      go_ret
      exact ⟨by rw [HI.out]; rfl, rfl⟩
theorem ckCon2_any (A : Option Addr) (n c : Nat) (F : Nat → Nat) (f bs : Nat) (w : World) (hT : U64s w A n F) (hn : n ≤ 9223372036854775807) (hf : f ≤ 8) (hc : w.cell? ⟨bs, 1, none⟩ = some (.int .i64 f)) :
    Calls Try.prog 96 #[.slice A n c, .func (.func 97) #[] #[.pointer (some ⟨bs, 0, none⟩)]] w fun e w' => e = .returned (.bool (!allB n (fun t => !decide (2 ^ f ≤ F t)))) ∧ w = w' := by
  have HE := Lib.hid (idxP_ge n (fun t => decide (2 ^ f ≤ F t)))
  have HI := Lib.hid (ckIdx2_any A n c F f bs w hT hn hf hc)
  clear hT hc
  go_enter Try.func96, Try.ntmps96
  go_wp2_with (go_at_call 132; refine (HI.out).mono ?_; rintro e w' ⟨rfl, rfl⟩)
  go_ret
  exact ⟨by rw [← HE.out]; rfl, rfl⟩
end Go.Proofs.Ytahaimecchdfeaa

/-
  Runs that are owned: the run of none, a box of two cells that is written; four blocks laid one after the other.
-/
namespace Go.Proofs.Ytahaimecchdfeaa
open Go.RowKit

def RunD.none : RunD := ⟨0, fun _ => 0, fun _ _ => 0, 0, fun _ => 0⟩
theorem RunD.none_owned (w : World) (base : Nat) : RunD.none.owned w base (.agg #[.slice .none 0 0, .slice .none 0 0]) :=
  ⟨_, _, [], rfl, World.ownsRow_nil _ _ _ _, fun _ hi => absurd hi (Nat.not_lt_zero _), World.ownsRow_nil _ _ _ _⟩
theorem Blk.put2 {w : World} {b : Nat} {T : TypeId} {x0 x1 : Value} (h : Blk w b T #[x0, x1]) (y0 y1 : Value) :
    (w.cell? ⟨b, 0, none⟩ = some x0 ∧ w.frozen? ⟨b, 0, none⟩ = false ∧ (w.setCell ⟨b, 0, none⟩ y0).cell? ⟨b, 1, none⟩ = some x1 ∧ (w.setCell ⟨b, 0, none⟩ y0).frozen? ⟨b, 1, none⟩ = false) ∧
    Blk ((w.setCell ⟨b, 0, none⟩ y0).setCell ⟨b, 1, none⟩ y1) b T #[y0, y1] := by
  have h1 : Blk (w.setCell ⟨b, 0, none⟩ y0) b T #[y0, x1] := h.set 0 y0
  exact ⟨⟨h.cell rfl, h.frozen, h1.cell rfl, h1.frozen⟩, h1.set 1 y1⟩
theorem Keeps.put2 {w : World} {b : Nat} {T T' : TypeId} {x0 x1 : Value} (h : Blk w b T #[x0, x1]) (hT : T' ≠ T) (y0 y1 : Value) : Keeps w ((w.setCell ⟨b, 0, none⟩ y0).setCell ⟨b, 1, none⟩ y1) T' := by
  have h1 : Blk (w.setCell ⟨b, 0, none⟩ y0) b T #[y0, x1] := h.set 0 y0
  exact (Keeps.of_set h hT 0 y0).trans (.of_set h1 hT 1 y1)
theorem RunO.put2 {w : World} {base b : Nat} {v : Value} {n k : Nat} {m : Nat → Nat} {L : Nat → Nat → Int} {F : Nat → Nat} {x0 x1 : Value} (hr : RunO w base v n m L k F) (h : Blk w b 69 #[x0, x1]) (y0 y1 : Value) : RunO ((w.setCell ⟨b, 0, none⟩ y0).setCell ⟨b, 1, none⟩ y1) base v n m L k F :=
  hr.keeps (Keeps.put2 h (by decide) _ _) (Keeps.put2 h (by decide) _ _) (Keeps.put2 h (by decide) _ _)
theorem four_blocks (w : World) (x0 x1 x2 x3 : Array Value) (T0 T1 T2 T3 : TypeId) (W : World) (hW : W = (((w.alloc (.cells x0 T0)).alloc (.cells x1 T1)).alloc (.cells x2 T2)).alloc (.cells x3 T3)) :
    Blk W w.heap.size T0 x0 ∧ Blk W (w.heap.size + 1) T1 x1 ∧ Blk W (w.heap.size + 1 + 1) T2 x2 ∧ Blk W (w.heap.size + 1 + 1 + 1) T3 x3 ∧ Below w.heap.size w W := by
  subst hW
  have k0 := Blk.new w x0 T0
  have k1 := Blk.new (w.alloc (.cells x0 T0)) x1 T1
  have k2 := Blk.new ((w.alloc (.cells x0 T0)).alloc (.cells x1 T1)) x2 T2
  have k3 := Blk.new (((w.alloc (.cells x0 T0)).alloc (.cells x1 T1)).alloc (.cells x2 T2)) x3 T3
  have hb := (((below_alloc w (.cells x0 T0)).alloc (by simp) (.cells x1 T1)).alloc (by simp; omega) (.cells x2 T2)).alloc (by simp; omega) (.cells x3 T3)
  simp only [World.size_alloc] at k1 k2 k3
  exact ⟨((k0.alloc _).alloc _).alloc _, (k1.alloc _).alloc _, k2.alloc _, k3, hb⟩
end Go.Proofs.Ytahaimecchdfeaa

/-
  The nodes of the formulas that occur; lists of nodes that are owned.
-/
namespace Go.Proofs.Ytahaimecchdfeaa
open Go.RowKit

/-- The nodes that occur: the true one, the fact 0, a negation, common knowledge of the group 3. -/
inductive Nd where
  | T
  | F
  | N (x : Nat)
  | C (x y : Nat)
def Nd.op : Nd → Nat
  | .T => 1
  | .F => 3
  | .N _ => 4
  | .C _ _ => 13
def Nd.g : Nd → Nat
  | .C _ _ => 3
  | _ => 0
def Nd.x : Nd → Nat
  | .N x => x
  | .C x _ => x
  | _ => 0
def Nd.y : Nd → Nat
  | .C _ y => y
  | _ => 0
def Nd.ux : Nd → Bool
  | .N _ => true
  | .C _ _ => true
  | _ => false
def Nd.uy : Nd → Bool
  | .C _ _ => true
  | _ => false
def Nd.uf : Nd → Bool
  | .F => true
  | _ => false
def Nd.ug : Nd → Bool
  | .C _ _ => true
  | _ => false
def Nd.fr : Nd → Nat
  | .C _ _ => 8
  | _ => 0
/-- The operands lie before a place. -/
def Nd.ok (at_ : Nat) : Nd → Prop
  | .N x => x < at_
  | .C x y => x < at_ ∧ y < at_
  | _ => True
/-- The cells of a node. -/
def Nd.V (n : Nd) : List Value := [.int .i64 n.op, .int .i64 0, .int .i64 0, .int .i64 n.g, .int .i64 n.x, .int .i64 n.y]
def ndL (l : List Nd) : List Value := l.flatMap Nd.V
theorem ndL_len (l : List Nd) : (ndL l).length = l.length * 6 := by
  induction l with
  | nil => rfl
  | cons c l ih => unfold ndL at ih ⊢; rw [List.flatMap_cons, List.length_append, ih, List.length_cons]; simp [Nd.V]; omega
theorem ndL_snoc (l : List Nd) (c : Nd) : ndL (l ++ [c]) = ndL l ++ c.V := by unfold ndL; rw [List.flatMap_append]; simp
theorem ndL_get : ∀ (l : List Nd) (k : Nat) (c : Nd), l[k]? = some c → ∀ j, j < 6 → (ndL l)[k * 6 + j]? = c.V[j]?
  | [], k, c, h => by simp at h
  | d :: l, 0, c, h => fun j hj => by
    have : d = c := by simpa using h
    subst this
    rw [Nat.zero_mul, Nat.zero_add]
    show (d.V ++ ndL l)[j]? = _
    rw [List.getElem?_append_left (by simp [Nd.V]; omega)]
  | d :: l, k + 1, c, h => fun j hj => by
    have ih := ndL_get l k c (by simpa using h) j hj
    show (d.V ++ ndL l)[(k + 1) * 6 + j]? = _
    rw [List.getElem?_append_right (by simp [Nd.V]; omega), ← ih]
    congr 1
    simp [Nd.V]; omega
theorem ndL_one (l : List Nd) : ∀ u ∈ ndL l, u.oneCell' = true := by
  intro u hu
  unfold ndL at hu
  rw [List.mem_flatMap] at hu
  obtain ⟨c, _, h⟩ := hu
  simp only [Nd.V, List.mem_cons, List.not_mem_nil, or_false] at h
  rcases h with rfl | rfl | rfl | rfl | rfl | rfl <;> rfl
theorem Try.infoNode : (Try.prog.info? 108).map (fun i => (i.zero, i.size, i.bytes)) = some (some (.agg #[.int .i64 0, .int .i64 0, .int .i64 0, .int .i64 0, .int .i64 0, .int .i64 0]), 6, 48) := by kernel_rfl
/-- A list of nodes, owned. -/
def NdO (w : World) (base : Nat) (v : Value) (l : List Nd) : Prop := w.ownsRow base 108 6 v l.length (ndL l)
/-- The six cells of a node. -/
structure NdC (w : World) (b o : Nat) (n : Nd) : Prop where
  c0 : w.cell? ⟨b, o, none⟩ = some (.int .i64 n.op)
  c1 : w.cell? ⟨b, o + 1, none⟩ = some (.int .i64 0)
  c2 : w.cell? ⟨b, o + 2, none⟩ = some (.int .i64 0)
  c3 : w.cell? ⟨b, o + 3, none⟩ = some (.int .i64 n.g)
  c4 : w.cell? ⟨b, o + 4, none⟩ = some (.int .i64 n.x)
  c5 : w.cell? ⟨b, o + 5, none⟩ = some (.int .i64 n.y)
theorem NdC.below {w w1 : World} {b o : Nat} {n : Nd} (h : NdC w b o n) (hb : Below w.heap.size w w1) : NdC w1 b o n := ⟨cell_below hb h.c0, cell_below hb h.c1, cell_below hb h.c2, cell_below hb h.c3, cell_below hb h.c4, cell_below hb h.c5⟩
theorem NdO.at {w : World} {base : Nat} {v : Value} {l : List Nd} (h : NdO w base v l) {k : Nat} {n : Nd} (hk : l[k]? = some n) : ∃ b cap, v = .slice (some ⟨b, 0, none⟩) l.length cap ∧ NdC w b (k * 6) n := by
  obtain ⟨A, cap, rfl, hA⟩ := own_form' h
  have hlt := (List.getElem?_eq_some_iff.1 hk).1
  obtain ⟨b, rfl, _, _, h0⟩ := hA (k * 6 + 0) (by omega)
  have hj : ∀ j, j < 6 → w.cell? ⟨b, k * 6 + j, none⟩ = n.V[j]? := fun j hj => by
    obtain ⟨b', e, _, _, h1⟩ := hA (k * 6 + j) (by omega)
    injection e with e
    injection e with e _ _
    subst e
    rw [h1]
    exact ndL_get l k n hk j hj
  exact ⟨b, cap, rfl, hj 0 (by decide), hj 1 (by decide), hj 2 (by decide), hj 3 (by decide), hj 4 (by decide), hj 5 (by decide)⟩
theorem NdO.below {w w1 : World} {base : Nat} {v : Value} {l : List Nd} (h : NdO w base v l) (hb : Below w.heap.size w w1) : NdO w1 base v l := own_keeps h (Keeps.of_below hb _)
theorem NdO.mono {w : World} {base base' : Nat} {v : Value} {l : List Nd} (h : NdO w base v l) (hb : base' ≤ base) : NdO w base' v l := own_mono' h hb
theorem NdO.shape {w : World} {base : Nat} {v : Value} {l : List Nd} (h : NdO w base v l) : ∃ A c, v = .slice A l.length c := by
  obtain ⟨A, c, e, _⟩ := own_form' h
  exact ⟨A, c, e⟩
theorem NdO.nil (w : World) (base : Nat) : NdO w base (.slice none 0 0) [] := World.ownsRow_nil _ _ _ _
/-- A list of nodes whose operands stand before them. -/
def NdsOk (l : List Nd) : Prop := ∀ (k : Nat) (n : Nd), l[k]? = some n → n.ok k
/-- A node in a block of its own. -/
theorem NdC.new (w : World) (n : Nd) : NdC (w.alloc (.cells n.V.toArray 108)) w.heap.size 0 n := by
  have h := Blk.new w n.V.toArray 108
  exact ⟨h.cell (k := 0) rfl, h.cell (k := 1) rfl, h.cell (k := 2) rfl, h.cell (k := 3) rfl, h.cell (k := 4) rfl, h.cell (k := 5) rfl⟩
end Go.Proofs.Ytahaimecchdfeaa

/-
  Maps that a call makes, with their elements as they lie: a map's datum holds the values themselves.
-/
namespace Go.Proofs.Ytahaimecchdfeaa
open Go.RowKit

/-- An element reads as itself. -/
def rawR (v : Value) : Option (DataW Value × List MemPlace) := some (.held v, [])
theorem rawR_at {v : Value} {D : DataW Value} {kl : Lit} {z : Value} {ps : List MemPlace} (h : rawR v = some (D.atKey kl (.held z), ps)) : D.atKey kl (.held z) = .held v := by
  unfold rawR at h
  injection h with h
  injection h with h _
  exact h.symm
/-- What is said of the map's elements: each key that is there has a value of which the statement holds. -/
def MapI (D : DataW Value) (z : Value) (Q : Lit → Value → Prop) : Prop := ∀ kl v, Maps.has D kl = true → D.atKey kl (.held z) = .held v → Q kl v
theorem MapI.nil (z : Value) (Q : Lit → Value → Prop) : MapI (.map []) z Q := fun kl v h _ => by simp [Maps.has] at h
theorem MapI.put {D : DataW Value} {z u : Value} {Q Q' : Lit → Value → Prop} {kl : Lit} (h : MapI D z Q) (hD : Maps.IsMap D) (hk : WideAt.IsKeyLit kl) (hQ : ∀ k v, k ≠ kl → Q k v → Q' k v) (hu : Q' kl u) : MapI (D.put kl (.held u)) z Q' := fun k v h1 h2 => by
  by_cases e : k = kl
  · subst e
    rw [Maps.atKey_put_same hD hk] at h2
    injection h2 with h2
    subst h2
    exact hu
  · rw [Maps.has_put_other e] at h1
    rw [Maps.atKey_put_other e] at h2
    exact hQ k v e (h k v h1 h2)
theorem MapI.imp {D : DataW Value} {z : Value} {Q Q' : Lit → Value → Prop} (h : MapI D z Q) (hQ : ∀ k v, Q k v → Q' k v) : MapI D z Q' := fun k v h1 h2 => hQ k v (h k v h1 h2)
/-- The blocks of cells are kept while a map is written. -/
theorem Keeps.map {P : Program} {k : TypeId} {R : Value → Option (DataW Value × List MemPlace)} {w w' : World} {b n : Nat} {D : DataW Value} (h : w.ownsMap P k R b n D) (hg : w.grownBy w' (some b)) (T : TypeId) : Keeps w w' T := fun b' cs hb => by
  refine hb.kept hg fun e => ?_
  injection e with e
  subst e
  obtain ⟨es, clock, hm, -⟩ := h
  have := (show w.heap[b]? = _ from hb).symm.trans hm
  simp at this
theorem ownsMap_below {P : Program} {k : TypeId} {R : Value → Option (DataW Value × List MemPlace)} {w w' : World} {b n : Nat} {D : DataW Value} (h : w.ownsMap P k R b n D) (hb : Below w.heap.size w w') : w'.ownsMap P k R b n D := h.kept (gr_below hb none) (by simp)
end Go.Proofs.Ytahaimecchdfeaa

/-
  Maps from numbers to numbers that a call makes.
-/
namespace Go.Proofs.Ytahaimecchdfeaa
open Go.RowKit

def keyN (k : Nat) : Lit := .int .i64 (k : Nat)
theorem keyN_lit (k : Nat) : WideAt.IsKeyLit (keyN k) := by simp [WideAt.IsKeyLit, keyN]
theorem keyN_inj {j k : Nat} (h : keyN j = keyN k) : j = k := by
  unfold keyN at h
  injection h with _ h
  omega
theorem keyN_ok {k : Nat} (hk : k ≤ 65536) : keyOf Try.prog 3 (.int .i64 k) = some (keyN k) := Maps.keyOf_int_mk Try.underlying3 (by simp only [Lit.wf, Bool.and_eq_true, decide_eq_true_eq]; exact (show (-9223372036854775808 : Int) ≤ (k : Int) ∧ (k : Int) ≤ 9223372036854775807 by omega))
theorem zeroInt (w : World) : (zeroValue 3).run Try.prog w = .ok (.int .i64 0) w := by kernel_rfl
/-- A map of numbers, by its entries. -/
def IntM (w : World) (b n : Nat) (m : Nat → Option Int) : Prop :=
  ∃ D, w.ownsMap Try.prog 3 rawR b n D ∧ ∀ k, (m k = none → Maps.has D (keyN k) = false) ∧ ∀ v, m k = some v → Maps.has D (keyN k) = true ∧ D.atKey (keyN k) (.held (.int .i64 0)) = .held (.int .i64 v)
theorem IntM.made (w : World) : IntM (w.alloc (.map #[] 0)) w.heap.size 0 (fun _ => none) := ⟨.map [], World.ownsMap_made _ _ _ _, fun _ => ⟨fun _ => by simp [Maps.has], fun _ h => by cases h⟩⟩
theorem IntM.below {w w1 : World} {b n : Nat} {m : Nat → Option Int} (h : IntM w b n m) (hb : Below w.heap.size w w1) : IntM w1 b n m := by
  obtain ⟨D, ho, hm⟩ := h
  exact ⟨D, ownsMap_below ho hb, hm⟩
theorem IntM.kept {w w1 : World} {b n : Nat} {m : Nat → Option Int} {row : Option Nat} (h : IntM w b n m) (hg : w.grownBy w1 row) (hne : row ≠ some b) : IntM w1 b n m := by
  obtain ⟨D, ho, hm⟩ := h
  exact ⟨D, ho.kept hg (fun e => hne e.symm), hm⟩
theorem IntM.lt {w : World} {b n : Nat} {m : Nat → Option Int} (h : IntM w b n m) : b < w.heap.size := by
  obtain ⟨D, ho, -⟩ := h
  exact ho.lt
theorem IntM.ne_blk {w : World} {b n b' : Nat} {m : Nat → Option Int} {T : TypeId} {xs : Array Value} (h : IntM w b n m) (hb : Blk w b' T xs) : b' ≠ b := by
  obtain ⟨D, ⟨es, clock, hm, -⟩, -⟩ := h
  rintro rfl
  have := (show w.heap[b']? = _ from hb).symm.trans hm
  simp at this
theorem IntM.ne_def {w : World} {b n D : Nat} {m : Nat → Option Int} {r : Option (List Deferred)} (h : IntM w b n m) (hD : w.heap[D]? = some (.deferred r)) : D ≠ b := by
  obtain ⟨_, ⟨es, clock, hm, -⟩, -⟩ := h
  rintro rfl
  rw [hm] at hD
  cases hD
theorem IntM.bound {w : World} {b n n' : Nat} {m : Nat → Option Int} (h : IntM w b n m) (hn : n ≤ n') : IntM w b n' m := by
  obtain ⟨D, ho, hm⟩ := h
  exact ⟨D, ho.mono hn, hm⟩
theorem IntM.congr {w : World} {b n : Nat} {m m' : Nat → Option Int} (h : IntM w b n m) (e : ∀ k, m k = m' k) : IntM w b n m' := by
  have : m = m' := funext e
  exact this ▸ h
theorem IntM.look_ok {w : World} {b n k : Nat} {m : Nat → Option Int} (h : IntM w b n m) (hk : k ≤ 65536) : (Instr.lookup 96 (.map (some b)) (.int .i64 k) true).run Try.prog w = .ok (.tuple #[.int .i64 ((m k).getD 0), .bool (m k).isSome]) w := by
  obtain ⟨D, ho, hm⟩ := h
  obtain ⟨v, ps, hrun, hv⟩ := ho.look_ok (Maps.int_keyed Try.underlying3) Try.underlying96 (zeroInt w) (show rawR (.int .i64 0) = some (.held (.int .i64 0), []) from rfl) (keyN_ok hk)
  rw [hrun]
  have e := rawR_at hv
  cases hmk : m k with
  | none =>
    have h1 := (hm k).1 hmk
    rw [Maps.atKey_of_not_has h1] at e
    have e := DataW.held.inj e
    subst e
    simp only [h1, Option.getD_none, Option.isSome_none]
  | some x =>
    obtain ⟨h1, h2⟩ := (hm k).2 x hmk
    rw [h2] at e
    have e := DataW.held.inj e
    subst e
    simp only [h1, Option.getD_some, Option.isSome_some]
theorem IntM.look {w : World} {b n k : Nat} {x : Int} {m : Nat → Option Int} (h : IntM w b n m) (hk : k ≤ 65536) (hx : m k = some x) : (Instr.lookup 96 (.map (some b)) (.int .i64 k) false).run Try.prog w = .ok (.int .i64 x) w := by
  obtain ⟨D, ho, hm⟩ := h
  obtain ⟨v, ps, hrun, hv⟩ := ho.lookup (Maps.int_keyed Try.underlying3) Try.underlying96 (zeroInt w) (show rawR (.int .i64 0) = some (.held (.int .i64 0), []) from rfl) (keyN_ok hk)
  rw [hrun]
  have e := rawR_at hv
  obtain ⟨h1, h2⟩ := (hm k).2 x hx
  rw [h2] at e
  have e := DataW.held.inj e
  subst e
  rfl
theorem IntM.put {w : World} {b n k : Nat} {m : Nat → Option Int} (h : IntM w b n m) (hk : k ≤ 65536) (hn : n < 65536) (v : Int) : ∃ w', (Instr.mapUpdate 96 (.map (some b)) (.int .i64 k) (.int .i64 v)).run Try.prog w = .ok () w' ∧ IntM w' b (n + 1) (fun j => if j = k then some v else m j) ∧ w.grownBy w' (some b) := by
  obtain ⟨D, ho, hm⟩ := h
  have hM := ho.isMap
  obtain ⟨w', hrun, ho', hg⟩ := ho.update (Maps.int_keyed Try.underlying3) Try.underlying96 (by unfold maxLen; omega) (keyN_ok hk) (show rawR (.int .i64 v) = some (.held (.int .i64 v), []) from rfl)
  refine ⟨w', hrun, ⟨_, ho', fun j => ?_⟩, hg⟩
  by_cases e : j = k
  · subst e
    refine ⟨fun h => by simp at h, fun x hx => ?_⟩
    dsimp only at hx
    rw [if_pos rfl] at hx
    injection hx with hx
    subst hx
    exact ⟨Maps.has_put_same hM (keyN_lit _) _, Maps.atKey_put_same hM (keyN_lit _) _ _⟩
  · have hne : keyN j ≠ keyN k := fun h => e (keyN_inj h)
    rw [Maps.has_put_other hne, Maps.atKey_put_other hne]
    dsimp only
    rw [if_neg e]
    exact hm j
end Go.Proofs.Ytahaimecchdfeaa

/-
  Maps that a call makes, keyed by structs: 'm[k] = append(m[k], x)' laid as an entry that is opened and shut.
-/
namespace Go.Proofs.Ytahaimecchdfeaa
open Go.RowKit Go.ChangeMaps Go.MapKept Go.WideShapes
open Go.WideElems (Fit rd rg pl rd_val elemAt)

/-- An entry that is open: what a store at its stamp leaves. -/
def MidE (P : Program) (t k : TypeId) (w1 : World) (b st n : Nat) (D : DataW Value) (kl : Lit) : Prop :=
  ∃ es1 clock1, w1.heap[b]? = some (.map es1 clock1) ∧ ∀ (w2 : World) (val : Value), w2.heap[b]? = some (.map es1 clock1) → ∃ w3, (Instr.entryStore t (.map (some b)) (goInt st) val).run P w2 = .ok () w3 ∧ w3.ownsMap P k rawR b (n + 1) (D.put kl (.held val)) ∧ w2.grownBy w3 (some b)
theorem MidE.kept {P : Program} {t k : TypeId} {w1 w2 : World} {b st n : Nat} {D : DataW Value} {kl : Lit} {row : Option Nat} (h : MidE P t k w1 b st n D kl) (hg : w1.grownBy w2 row) (hne : row ≠ some b) : MidE P t k w2 b st n D kl := by
  obtain ⟨es1, clock1, h1, h2⟩ := h
  exact ⟨es1, clock1, (hg.block b (Array.getElem?_eq_some_iff.1 h1).1 (fun e => hne e.symm)).trans h1, h2⟩
theorem MidE.lt {P : Program} {t k : TypeId} {w1 : World} {b st n : Nat} {D : DataW Value} {kl : Lit} (h : MidE P t k w1 b st n D kl) : b < w1.heap.size := by
  obtain ⟨es1, clock1, h1, _⟩ := h
  exact (Array.getElem?_eq_some_iff.1 h1).1
theorem MidE.below {P : Program} {t k : TypeId} {w1 w2 : World} {b st n : Nat} {D : DataW Value} {kl : Lit} (h : MidE P t k w1 b st n D kl) (hb : Below w1.heap.size w1 w2) : MidE P t k w2 b st n D kl := by
  have hlt := h.lt
  obtain ⟨es1, clock1, h1, h2⟩ := h
  exact ⟨es1, clock1, (hb.block b hlt).trans h1, h2⟩
theorem MidE.store {P : Program} {t k : TypeId} {w1 : World} {b st n : Nat} {D : DataW Value} {kl : Lit} (h : MidE P t k w1 b st n D kl) (val : Value) : ∃ w3, (Instr.entryStore t (.map (some b)) (.int .i64 st) val).run P w1 = .ok () w3 ∧ w3.ownsMap P k rawR b (n + 1) (D.put kl (.held val)) ∧ w1.grownBy w3 (some b) := by
  obtain ⟨es1, clock1, h1, h2⟩ := h
  exact h2 w1 val h1
theorem raw_entry {P : Program} {w : World} {t k e : TypeId} {b n : Nat} {D : DataW Value} {z : Value} (KL : WideMaps.KeyLaw P k) (ht : P.underlying t = some (.map k e)) (hz : ∀ u : World, (zeroValue e).run P u = .ok z u) (hown : w.ownsMap P k rawR b n D) (hn : n < maxLen)
    {key : Value} {kl : Lit} (hkey : keyOf P k key = some kl) :
    ∃ (v0 : Value) (st : Nat) (w1 : World), (Instr.mapEntry t (.map (some b)) key).run P w = .ok (.tuple #[v0, goInt st]) w1 ∧ w.grownBy w1 (some b) ∧ ((Maps.has D kl = true ∧ D.atKey kl (.held z) = .held v0) ∨ (Maps.has D kl = false ∧ v0 = z)) ∧ MidE P t k w1 b st n D kl := by
  have K := Maps.Keyed.of_law KL
  have hown0 := hown
  obtain ⟨es, clock, hb, F, hs, rfl⟩ := hown
  obtain ⟨v0, st, es1, clock1, h1, h2, h3⟩ := WideElems.entry_then_store KL ht hz hb F hkey
  refine ⟨v0, st, _, h1, ⟨rfl, rfl, rfl, by simp [setBlock], fun i _ hi => heap_setBlock_other hb _ (fun e => hi (by rw [e]))⟩, ?_, es1, clock1, heap_setBlock_same hb _, fun w2 val hw2 => ?_⟩
  · have hat := WideShapes.atKey_sorted (es.toList.map (rg P k rawR)) (Maps.fit_rising K F) kl (K.key hkey)
    rcases h2 with ⟨e0, hm0, hk0, rfl⟩ | ⟨hno, rfl⟩
    · obtain ⟨y0, hy0⟩ := F.reads e0 hm0
      obtain ⟨zv, hzv, hd⟩ := rd_val hy0
      have m0 := WideElems.rd_key hy0
      rw [hk0, hkey] at m0
      have hall : ∀ zd, (DataW.map ((es.toList.map (rg P k rawR)).foldr DataW.insert [])).atKey kl zd = .held e0.val := fun zd => by
        rw [hat.2 (rg P k rawR e0) (List.mem_map.2 ⟨e0, hm0, rfl⟩) (by rw [WideElems.rg_of hy0]; exact (Option.some.inj m0).symm), WideElems.rg_of hy0, hd]
        unfold rawR at hzv
        rw [← Option.some.inj hzv]
      exact .inl ⟨Maps.has_true_of_atKey hall, hall _⟩
    · refine .inr ⟨Maps.has_false_of_atKey (hat.1 (fun p hp e1 => ?_)), rfl⟩
      obtain ⟨x, hx, rfl⟩ := List.mem_map.1 hp
      obtain ⟨y, hy⟩ := F.reads x hx
      have m1 := WideElems.rd_key hy
      rw [WideElems.rg_of hy] at e1
      rw [e1] at m1
      exact hno x hx (K.inj m1 hkey)
  · obtain ⟨es', clock', hr, hu⟩ := h3 w2 val hw2
    obtain ⟨w', hu', ho', -⟩ := hown0.update K ht hn hkey (show rawR val = some (.held val, []) from rfl)
    have ew : w' = setBlock w b (.map es' clock') := by
      rw [hu] at hu'
      injection hu' with _ e
      exact e.symm
    subst ew
    obtain ⟨es2, clock2, hb2, F2, hs2, hD2⟩ := ho'
    rw [heap_setBlock_same hb] at hb2
    injection hb2 with hb2
    injection hb2 with e1 e2
    subst e1 e2
    exact ⟨_, hr, ⟨es', clock', heap_setBlock_same hw2 _, F2, hs2, hD2⟩, ⟨rfl, rfl, rfl, by simp [setBlock], fun i _ hi => heap_setBlock_other hw2 _ (fun e => hi (by rw [e]))⟩⟩
/-- The entry is opened, at a step of a drawn region. -/
theorem step_mapEntry {P : Program} (w : World) {ops : Array Oper} {o : Oper} {a : Act} {K : Act → World → Prop} {Q : Exit → Act → World → Prop} {E : Prop} (hgd : o.guard = none) (m x : Operand) (t : TypeId) (ho : o.op = .mapEntry t m x)
    (k e : TypeId) (KL : WideMaps.KeyLaw P k) (ht : P.underlying t = some (.map k e)) (z : Value) (hz : ∀ u : World, (zeroValue e).run P u = .ok z u) (b n : Nat) (D : DataW Value) (hm : a.eval m = .map (some b)) (hown : w.ownsMap P k rawR b n D) (hn : n < maxLen) (key : Value) (kl : Lit) (hx : a.eval x = key) (hkey : keyOf P k key = some kl)
    (h : ∀ v0 st w1, w.grownBy w1 (some b) → ((Maps.has D kl = true ∧ D.atKey kl (.held z) = .held v0) ∨ (Maps.has D kl = false ∧ v0 = z)) → MidE P t k w1 b st n D kl → K (a.put o.dst (.tuple #[v0, .int .i64 st])) w1) :
    if Region.wanted o (yielded ops a.tmps) = true then Oper.wp P o a w K Q else E := by
  have hw : Region.wanted o (yielded ops a.tmps) = true := by simp [Region.wanted, hgd]
  rw [if_pos hw]
  obtain ⟨v0, st, w1, hrun, h1, h2, h3⟩ := raw_entry KL ht hz hown hn hkey
  unfold Oper.wp
  simp [execOp, ho, hm, hx, hrun, Result.andThen]
  exact h v0 st w1 h1 h2 h3
/-- .. and shut. -/
theorem step_entryStore {P : Program} (w : World) {ops : Array Oper} {o : Oper} {a : Act} {K : Act → World → Prop} {Q : Exit → Act → World → Prop} {E : Prop} (hgd : o.guard = none) (m s x : Operand) (t : TypeId) (ho : o.op = .entryStore t m s x)
    (k : TypeId) (b st n : Nat) (D : DataW Value) (kl : Lit) (hm : a.eval m = .map (some b)) (hs : a.eval s = .int .i64 st) (hmid : MidE P t k w b st n D kl) (val : Value) (hx : a.eval x = val)
    (h : ∀ w3, w3.ownsMap P k rawR b (n + 1) (D.put kl (.held val)) → w.grownBy w3 (some b) → K (a.put o.dst undef) w3) :
    if Region.wanted o (yielded ops a.tmps) = true then Oper.wp P o a w K Q else E := by
  have hw : Region.wanted o (yielded ops a.tmps) = true := by simp [Region.wanted, hgd]
  rw [if_pos hw]
  obtain ⟨es1, clock1, h1, h2⟩ := hmid
  obtain ⟨w3, hrun, ho3, hg3⟩ := h2 w val h1
  have hrun2 : (Instr.entryStore t (.map (some b)) (.int .i64 st) val).run P w = .ok () w3 := hrun
  unfold Oper.wp
  simp [execOp, ho, hm, hs, hx, hrun2, Result.andThen]
  exact h w3 ho3 hg3
end Go.Proofs.Ytahaimecchdfeaa

/-
  The points at which an agent sees the same: a map from an agent and its state to the numbers of points.
-/
namespace Go.Proofs.Ytahaimecchdfeaa
open Go.RowKit

theorem Try.laidOutAll : laidOutB Try.prog = true := by kernel_rfl
theorem seenRow : (125 : TypeId) < Try.prog.types.size := of_decide_eq_true (by kernel_rfl)
theorem seenLaw : WideMaps.KeyLaw Try.prog 125 := deep_law_laid Try.laidOutAll (m := 2) (by omega) seenRow (by kernel_rfl) (by kernel_rfl)
def okX (x : Int) : Prop := -9223372036854775808 ≤ x ∧ x ≤ 9223372036854775807
theorem okX_wf {x : Int} (h : okX x) : (Lit.int .i64 x).wf = true := by simp only [Lit.wf, Bool.and_eq_true, decide_eq_true_eq]; exact h
theorem okX_nat {g : Nat} (h : g < 65536) : okX (g : Int) := by unfold okX; omega
def keyS (a x : Int) : Lit := .string (keyBytes [.int .i64 a, .int .i64 x])
theorem keyS_lit (a x : Int) : WideAt.IsKeyLit (keyS a x) := by simp [WideAt.IsKeyLit, keyS]
theorem seenKind : Try.prog.keyType 125 = true := by kernel_rfl
theorem ex_succ {a b : Nat} (h : a < b) : ∃ m, b = m + 1 := ⟨b - 1, by omega⟩
theorem seenCells : Try.prog.cellsOf 125 = 2 := by kernel_rfl
theorem intCells : Try.prog.cellsOf 3 = 1 := by kernel_rfl
theorem keyS_ok {a x : Int} (ha : okX a) (hx : okX x) : keyOf Try.prog 125 (.agg #[.int .i64 a, .int .i64 x]) = some (keyS a x) := by
  obtain ⟨m, hm⟩ : ∃ m, Try.prog.types.size = m + 1 := ex_succ seenRow
  have e : Try.prog.keyLits (Try.prog.types.size + 1) 125 [.int .i64 a, .int .i64 x] = some [.int .i64 a, .int .i64 x] := by
    rw [hm]
    simp [Program.keyLits, Try.underlying125, Try.underlying3, seenCells, intCells, okX_wf ha, okX_wf hx]
  unfold keyOf
  rw [Try.underlying125]
  show (if (Try.prog.keyType 125 && (Value.agg #[.int .i64 a, .int .i64 x]).formed Try.prog 125) = true then (Try.prog.keyLits (Try.prog.types.size + 1) 125 [.int .i64 a, .int .i64 x]).map _ else none) = _
  rw [if_pos (by simp [seenKind, Value.formed, Try.underlying125, seenCells]), e]
  rfl
theorem keyS_inj {a x a' x' : Int} (ha : okX a) (hx : okX x) (ha' : okX a') (hx' : okX x') (h : keyS a x = keyS a' x') : a = a' ∧ x = x' := by
  have h1 := keyS_ok ha hx
  rw [h] at h1
  have := (Maps.Keyed.of_law seenLaw).inj h1 (keyS_ok ha' hx')
  simpa using this

/-! ### blocks of cells that are kept -/
def KeepRow (w w' : World) (row : Option Nat) : Prop := ∀ i cs T fr, w.heap[i]? = some (.cells cs T fr) → row ≠ some i → w'.heap[i]? = some (.cells cs T fr)
theorem KeepRow.refl (w : World) (row : Option Nat) : KeepRow w w row := fun _ _ _ _ h _ => h
theorem KeepRow.trans {w1 w2 w3 : World} {row : Option Nat} (h : KeepRow w1 w2 row) (h' : KeepRow w2 w3 row) : KeepRow w1 w3 row := fun i cs T fr h1 hne => h' i cs T fr (h i cs T fr h1 hne) hne
theorem KeepRow.grown {w w' : World} {row : Option Nat} (hg : w.grownBy w' row) : KeepRow w w' row := fun i _ _ _ h hne => (hg.block i (Array.getElem?_eq_some_iff.1 h).1 (fun e => hne e.symm)).trans h
theorem KeepRow.below {w w' : World} (hb : Below w.heap.size w w') (row : Option Nat) : KeepRow w w' row := fun i _ _ _ h _ => (hb.block i (Array.getElem?_eq_some_iff.1 h).1).trans h
theorem KeepRow.map {P : Program} {k : TypeId} {R : Value → Option (DataW Value × List MemPlace)} {w w' : World} {b n : Nat} {D : DataW Value} (h : w.ownsMap P k R b n D) (hg : w.grownBy w' (some b)) (row : Option Nat) : KeepRow w w' row := fun i cs T fr hi _ => by
  refine (hg.block i (Array.getElem?_eq_some_iff.1 hi).1 fun e => ?_).trans hi
  injection e with e
  subst e
  obtain ⟨es, clock, hm, -⟩ := h
  have := hi.symm.trans hm
  simp at this
theorem KeepRow.mid {P : Program} {t k : TypeId} {w w' : World} {b st n : Nat} {D : DataW Value} {kl : Lit} (h : MidE P t k w b st n D kl) (hg : w.grownBy w' (some b)) (row : Option Nat) : KeepRow w w' row := fun i cs T fr hi _ => by
  refine (hg.block i (Array.getElem?_eq_some_iff.1 hi).1 fun e => ?_).trans hi
  injection e with e
  subst e
  obtain ⟨es, clock, hm, -⟩ := h
  have := hi.symm.trans hm
  simp at this
theorem own_keepRow {w w' : World} {base e sz n : Nat} {v : Value} {xs : List Value} {row : Option Nat} (h : w.ownsRow base e sz v n xs) (hk : KeepRow w w' row) (hne : ∀ q, v.ownBlock = some q → row ≠ some q) : w'.ownsRow base e sz v n xs := by
  refine ⟨h.1, ?_⟩
  rcases h.2 with ⟨h1, h2⟩ | ⟨g, cap, cur, rfl, hg, hh, h3⟩
  · exact .inl ⟨h1, h2⟩
  · exact .inr ⟨g, cap, cur, rfl, hg, hk _ _ _ _ hh (hne g rfl), h3⟩
theorem own_lt {w : World} {base e sz n q : Nat} {v : Value} {xs : List Value} (h : w.ownsRow base e sz v n xs) (hq : v.ownBlock = some q) : q < w.heap.size := by
  rcases h.2 with ⟨rfl, h2⟩ | ⟨g, cap, cur, rfl, hg, hh, h3⟩
  · cases hq
  · injection hq with hq
    subst hq
    exact (Array.getElem?_eq_some_iff.1 hh).1

/-! ### the map -/
def natV (l : List Nat) : List Value := l.map fun k => .int .i64 (k : Nat)
/-- A list of numbers, owned. -/
def OwnN (w : World) (base : Nat) (v : Value) (l : List Nat) : Prop := w.ownsRow base 3 1 v l.length (natV l)
theorem OwnN.nil (w : World) (base : Nat) : OwnN w base (.slice none 0 0) [] := World.ownsRow_nil _ _ _ _
theorem OwnN.below {w w1 : World} {base : Nat} {v : Value} {l : List Nat} (h : OwnN w base v l) (hb : Below w.heap.size w w1) : OwnN w1 base v l := own_keeps h (Keeps.of_below hb _)
theorem OwnN.shape {w : World} {base : Nat} {v : Value} {l : List Nat} (h : OwnN w base v l) : ∃ A c, v = .slice A l.length c := by
  obtain ⟨A, c, e, _⟩ := own_form' h
  exact ⟨A, c, e⟩
theorem OwnN.at {w : World} {base : Nat} {v : Value} {l : List Nat} (h : OwnN w base v l) {k x : Nat} (hk : l[k]? = some x) : ∃ b c, v = .slice (some ⟨b, 0, none⟩) l.length c ∧ w.cell? ⟨b, k, none⟩ = some (.int .i64 (x : Nat)) := by
  obtain ⟨A, c, rfl, hA⟩ := own_form' h
  obtain ⟨b, rfl, _, _, h1⟩ := hA k (by rw [Nat.mul_one]; exact (List.getElem?_eq_some_iff.1 hk).1)
  exact ⟨b, c, rfl, h1.trans (by unfold natV; simp [hk])⟩
theorem OwnN.mono {w : World} {base base' : Nat} {v : Value} {l : List Nat} (h : OwnN w base v l) (hb : base' ≤ base) : OwnN w base' v l := own_mono' h hb
/-- The map from what is seen to the numbers of the points. -/
structure SameM (w : World) (base b n : Nat) (D : DataW Value) (I : Nat → Int → List Nat) : Prop where
  own : w.ownsMap Try.prog 125 rawR b n D
  rows : ∀ (g : Nat) (x : Int), g < 65536 → okX x → Maps.has D (keyS g x) = true → ∃ v, D.atKey (keyS g x) (.held (.slice none 0 0)) = .held v ∧ OwnN w base v (I g x)
  miss : ∀ (g : Nat) (x : Int), g < 65536 → okX x → Maps.has D (keyS g x) = false → I g x = []
  apart : ∀ (g : Nat) (x : Int) (g' : Nat) (x' : Int), g < 65536 → okX x → g' < 65536 → okX x' → (g ≠ g' ∨ x ≠ x') → Maps.has D (keyS g x) = true → Maps.has D (keyS g' x') = true → ∀ v v' q, D.atKey (keyS g x) (.held (.slice none 0 0)) = .held v → D.atKey (keyS g' x') (.held (.slice none 0 0)) = .held v' → v.ownBlock = some q → v'.ownBlock ≠ some q
theorem SameM.made (w : World) (base : Nat) : SameM (w.alloc (.map #[] 0)) base w.heap.size 0 (.map []) (fun _ _ => []) :=
  ⟨World.ownsMap_made _ _ _ _, fun _ _ _ _ h => by simp [Maps.has] at h, fun _ _ _ _ _ => rfl, fun _ _ _ _ _ _ _ _ _ h => by simp [Maps.has] at h⟩
theorem SameM.below {w w1 : World} {base b n : Nat} {D : DataW Value} {I : Nat → Int → List Nat} (h : SameM w base b n D I) (hb : Below w.heap.size w w1) : SameM w1 base b n D I :=
  ⟨ownsMap_below h.own hb, fun g x h1 h2 h3 => by obtain ⟨v, e, ho⟩ := h.rows g x h1 h2 h3; exact ⟨v, e, ho.below hb⟩, h.miss, h.apart⟩
theorem SameM.congr {w : World} {base b n : Nat} {D : DataW Value} {I I' : Nat → Int → List Nat} (h : SameM w base b n D I) (e : ∀ g x, I g x = I' g x) : SameM w base b n D I' := by
  have : I = I' := funext fun g => funext fun x => e g x
  exact this ▸ h
theorem SameM.step {w wC : World} {base b n g k : Nat} {x : Int} {D : DataW Value} {I : Nat → Int → List Nat} {v0 v' : Value} (h : SameM w base b n D I) (hg : g < 65536) (hx : okX x)
    (hv : (Maps.has D (keyS g x) = true ∧ D.atKey (keyS g x) (.held (.slice none 0 0)) = .held v0) ∨ (Maps.has D (keyS g x) = false ∧ v0 = .slice none 0 0))
    (hk : KeepRow w wC v0.ownBlock) (hloc : ∀ q, v'.ownBlock = some q → v0.ownBlock = some q ∨ w.heap.size ≤ q)
    (ho : wC.ownsMap Try.prog 125 rawR b (n + 1) (D.put (keyS g x) (.held v'))) (hr : OwnN wC base v' (I g x ++ [k])) :
    SameM wC base b (n + 1) (D.put (keyS g x) (.held v')) (fun g' x' => if g' = g ∧ x' = x then I g x ++ [k] else I g' x') := by
  have hM := h.own.isMap
  have hkey : ∀ (g' : Nat) (x' : Int), g' < 65536 → okX x' → ¬ (g' = g ∧ x' = x) → keyS g' x' ≠ keyS g x := fun g' x' h1 h2 hne e => by
    have := keyS_inj (okX_nat h1) h2 (okX_nat hg) hx e
    exact hne ⟨by omega, this.2⟩
  have hfar : ∀ (g' : Nat) (x' : Int), g' < 65536 → okX x' → ¬ (g' = g ∧ x' = x) → Maps.has D (keyS g' x') = true → ∀ v q, D.atKey (keyS g' x') (.held (.slice none 0 0)) = .held v → v.ownBlock = some q → v0.ownBlock ≠ some q := fun g' x' h1 h2 hne hh v q ev hq e => by
    rcases hv with ⟨h3, h4⟩ | ⟨-, rfl⟩
    · exact h.apart g' x' g x h1 h2 hg hx (by by_cases e1 : g' = g; exact .inr (fun e2 => hne ⟨e1, e2⟩); exact .inl e1) hh h3 v v0 q ev h4 hq e
    · cases e
  refine ⟨ho, fun g' x' h1 h2 hh => ?_, fun g' x' h1 h2 hh => ?_, fun g1 x1 g2 x2 h1 h2 h3 h4 hne hh hh' v v'' q ev ev' hq hq' => ?_⟩
  · by_cases hc : g' = g ∧ x' = x
    · obtain ⟨rfl, rfl⟩ := hc
      exact ⟨v', Maps.atKey_put_same hM (keyS_lit _ _) _ _, by rw [if_pos ⟨rfl, rfl⟩]; exact hr⟩
    · rw [Maps.has_put_other (hkey g' x' h1 h2 hc)] at hh
      obtain ⟨v, ev, hown⟩ := h.rows g' x' h1 h2 hh
      refine ⟨v, by rw [Maps.atKey_put_other (hkey g' x' h1 h2 hc)]; exact ev, ?_⟩
      rw [if_neg hc]
      exact own_keepRow hown hk fun q hq => hfar g' x' h1 h2 hc hh v q ev hq
  · by_cases hc : g' = g ∧ x' = x
    · obtain ⟨rfl, rfl⟩ := hc
      rw [Maps.has_put_same hM (keyS_lit _ _)] at hh; cases hh
    · rw [Maps.has_put_other (hkey g' x' h1 h2 hc)] at hh
      rw [if_neg hc]
      exact h.miss g' x' h1 h2 hh
  · by_cases c1 : g1 = g ∧ x1 = x
    · by_cases c2 : g2 = g ∧ x2 = x
      · rcases hne with hne | hne
        · exact hne (c1.1.trans c2.1.symm)
        · exact hne (c1.2.trans c2.2.symm)
      · obtain ⟨rfl, rfl⟩ := c1
        rw [Maps.atKey_put_same hM (keyS_lit _ _)] at ev
        injection ev with ev
        subst ev
        rw [Maps.has_put_other (hkey g2 x2 h3 h4 c2)] at hh'
        rw [Maps.atKey_put_other (hkey g2 x2 h3 h4 c2)] at ev'
        obtain ⟨u, eu, hown⟩ := h.rows g2 x2 h3 h4 hh'
        rw [ev'] at eu
        injection eu with eu
        subst eu
        rcases hloc q hq with e | e
        · exact hfar g2 x2 h3 h4 c2 hh' _ q ev' hq' e
        · have := own_lt hown hq'
          omega
    · rw [Maps.has_put_other (hkey g1 x1 h1 h2 c1)] at hh
      rw [Maps.atKey_put_other (hkey g1 x1 h1 h2 c1)] at ev
      by_cases c2 : g2 = g ∧ x2 = x
      · obtain ⟨rfl, rfl⟩ := c2
        rw [Maps.atKey_put_same hM (keyS_lit _ _)] at ev'
        injection ev' with ev'
        subst ev'
        obtain ⟨u, eu, hown⟩ := h.rows g1 x1 h1 h2 hh
        rw [ev] at eu
        injection eu with eu
        subst eu
        rcases hloc q hq' with e | e
        · exact hfar g1 x1 h1 h2 c1 hh _ q ev hq e
        · have := own_lt hown hq
          omega
      · rw [Maps.has_put_other (hkey g2 x2 h3 h4 c2)] at hh'
        rw [Maps.atKey_put_other (hkey g2 x2 h3 h4 c2)] at ev'
        exact h.apart g1 x1 g2 x2 h1 h2 h3 h4 hne hh hh' v v'' q ev ev' hq hq'
theorem zeroNums (w : World) : (zeroValue 75).run Try.prog w = .ok (.slice none 0 0) w := by kernel_rfl
/-- Reading the map. -/
theorem SameM.look {w : World} {base b n : Nat} {D : DataW Value} {I : Nat → Int → List Nat} (h : SameM w base b n D I) {g : Nat} {x : Int} (hg : g < 65536) (hx : okX x) :
    ∃ v, (Instr.lookup 77 (.map (some b)) (.agg #[.int .i64 g, .int .i64 x]) false).run Try.prog w = .ok v w ∧ OwnN w base v (I g x) := by
  obtain ⟨v, ps, hrun, hv⟩ := h.own.lookup (Maps.Keyed.of_law seenLaw) Try.underlying77 (zeroNums w) (show rawR (.slice none 0 0) = some (.held (.slice none 0 0), []) from rfl) (keyS_ok (okX_nat hg) hx)
  refine ⟨v, hrun, ?_⟩
  have e := rawR_at hv
  cases hh : Maps.has D (keyS g x)
  · rw [Maps.atKey_of_not_has hh] at e
    injection e with e
    subst e
    rw [h.miss g x hg hx hh]
    exact OwnN.nil _ _
  · obtain ⟨u, eu, ho⟩ := h.rows g x hg hx hh
    rw [e] at eu
    injection eu with eu
    subst eu
    exact ho

/-! ### the numbers of the points -/
/-- The points at which an agent has a state. -/
def idA (L : Nat → Nat → Nat → Int) (pts : List (Nat × Nat)) (g : Nat) (x : Int) : List Nat := (List.range pts.length).filter fun k => L (pts.getD k (0, 0)).1 (pts.getD k (0, 0)).2 g == x
theorem idA_nil (L : Nat → Nat → Nat → Int) (g : Nat) (x : Int) : idA L [] g x = [] := rfl
theorem idA_snoc (L : Nat → Nat → Nat → Int) (pts : List (Nat × Nat)) (p : Nat × Nat) (g : Nat) (x : Int) : idA L (pts ++ [p]) g x = if x = L p.1 p.2 g then idA L pts g x ++ [pts.length] else idA L pts g x := by
  unfold idA
  rw [List.length_append, List.length_singleton, List.range_succ, List.filter_append]
  have h1 : (List.range pts.length).filter (fun k => L ((pts ++ [p]).getD k (0, 0)).1 ((pts ++ [p]).getD k (0, 0)).2 g == x) = (List.range pts.length).filter fun k => L (pts.getD k (0, 0)).1 (pts.getD k (0, 0)).2 g == x := by
    refine List.filter_congr fun k hk => ?_
    rw [List.mem_range] at hk
    rw [List.getD_eq_getElem?_getD, List.getD_eq_getElem?_getD, List.getElem?_append_left hk]
  rw [h1]
  have h2 : (pts ++ [p]).getD pts.length (0, 0) = p := by rw [List.getD_eq_getElem?_getD]; simp
  by_cases hx : x = L p.1 p.2 g
  · rw [if_pos hx, List.filter_cons_of_pos (by rw [h2]; simp [hx])]; rfl
  · rw [if_neg hx, List.filter_cons_of_neg (by rw [h2]; simp; exact fun e => hx e.symm)]; simp
/-- .. behind some points, of the first agents. -/
def idB (a : Nat) (L : Nat → Nat → Nat → Int) (pts : List (Nat × Nat)) (g : Nat) (x : Int) : List Nat := if g < a then idA L pts g x else []
/-- .. while a point is added, agent by agent. -/
def idG (a k : Nat) (L : Nat → Nat → Nat → Int) (pts : List (Nat × Nat)) (p : Nat × Nat) (g : Nat) (x : Int) : List Nat := if g < k then idA L (pts ++ [p]) g x else idB a L pts g x
theorem idG_zero (a : Nat) (L : Nat → Nat → Nat → Int) (pts : List (Nat × Nat)) (p : Nat × Nat) (g : Nat) (x : Int) : idB a L pts g x = idG a 0 L pts p g x := (if_neg (Nat.not_lt_zero _)).symm
theorem idG_end (a : Nat) (L : Nat → Nat → Nat → Int) (pts : List (Nat × Nat)) (p : Nat × Nat) (g : Nat) (x : Int) : idG a a L pts p g x = idB a L (pts ++ [p]) g x := by
  unfold idG idB
  by_cases h : g < a
  · rw [if_pos h, if_pos h]
  · rw [if_neg h, if_neg h, if_neg h]
theorem idG_step (a k : Nat) (L : Nat → Nat → Nat → Int) (pts : List (Nat × Nat)) (p : Nat × Nat) (hk : k < a) (g : Nat) (x : Int) : (if g = k ∧ x = L p.1 p.2 k then idG a k L pts p k (L p.1 p.2 k) ++ [pts.length] else idG a k L pts p g x) = idG a (k + 1) L pts p g x := by
  unfold idG
  by_cases hg : g = k
  · subst hg
    rw [if_neg (Nat.lt_irrefl g), if_neg (Nat.lt_irrefl g), if_pos (Nat.lt_succ_self g), idA_snoc]
    unfold idB
    rw [if_pos hk, if_pos hk]
    by_cases hx : x = L p.1 p.2 g
    · rw [if_pos ⟨rfl, hx⟩, if_pos hx, ← hx]
    · rw [if_neg (fun h => hx h.2), if_neg hx]
  · rw [if_neg (fun h => hg h.1)]
    by_cases h : g < k
    · rw [if_pos h, if_pos (by omega)]
    · rw [if_neg h, if_neg (by omega)]
end Go.Proofs.Ytahaimecchdfeaa

/-
  Memory of compact: the map from nodes to numbers; the order in which nodes are finished.
-/
namespace Go.Proofs.Ytahaimecchdfeaa
open Go.RowKit

theorem nodeRow : (108 : TypeId) < Try.prog.types.size := of_decide_eq_true (by kernel_rfl)
theorem nodeLaw : WideMaps.KeyLaw Try.prog 108 := deep_law_laid Try.laidOutAll (m := 6) (by omega) nodeRow (by kernel_rfl) (by kernel_rfl)
theorem nodeKind : Try.prog.keyType 108 = true := by kernel_rfl
theorem nodeCells : Try.prog.cellsOf 108 = 6 := by kernel_rfl
def Nd.lits (n : Nd) : List Lit := [.int .i64 n.op, .int .i64 0, .int .i64 0, .int .i64 n.g, .int .i64 n.x, .int .i64 n.y]
def keyNd (n : Nd) : Lit := .string (keyBytes n.lits)
theorem keyNd_lit (n : Nd) : WideAt.IsKeyLit (keyNd n) := by simp [WideAt.IsKeyLit, keyNd]
/-- Operands of a size that a machine holds. -/
def Nd.small (n : Nd) : Prop := n.x < 65536 ∧ n.y < 65536
theorem Nd.op_small (n : Nd) : n.op < 65536 := by cases n <;> exact Nat.le_of_ble_eq_true rfl
theorem Nd.g_small (n : Nd) : n.g < 65536 := by cases n <;> exact Nat.le_of_ble_eq_true rfl
theorem Nd.ok_small {n : Nd} {k : Nat} (h : n.ok k) (hk : k ≤ 65536) : n.small := by
  cases n with
  | T => exact ⟨by decide, by decide⟩
  | F => exact ⟨by decide, by decide⟩
  | N x => exact ⟨Nat.lt_of_lt_of_le h hk, Nat.le_of_ble_eq_true rfl⟩
  | C x y => exact ⟨Nat.lt_of_lt_of_le h.1 hk, Nat.lt_of_lt_of_le h.2 hk⟩
theorem Nd.lits_inj {n n' : Nd} (h : n.lits = n'.lits) : n = n' := by
  cases n <;> cases n' <;> simp_all [Nd.lits, Nd.op, Nd.g, Nd.x, Nd.y] <;> omega
theorem Nd.V_inj {n n' : Nd} (h : Value.agg n.V.toArray = Value.agg n'.V.toArray) : n = n' := by
  cases n <;> cases n' <;> simp_all [Nd.V, Nd.op, Nd.g, Nd.x, Nd.y] <;> omega
theorem okX_zero : okX 0 := ⟨by decide, by decide⟩
theorem keyNd_ok {n : Nd} (h : n.small) : keyOf Try.prog 108 (.agg n.V.toArray) = some (keyNd n) := by
  obtain ⟨m, hm⟩ : ∃ m, Try.prog.types.size = m + 1 := ex_succ nodeRow
  have e : Try.prog.keyLits (Try.prog.types.size + 1) 108 n.V = some n.lits := by
    rw [hm]
    simp [Program.keyLits, Nd.V, Nd.lits, Try.underlying108, Try.underlying3, nodeCells, intCells, okX_wf (okX_nat n.op_small), okX_wf (okX_nat n.g_small), okX_wf (okX_nat h.1), okX_wf (okX_nat h.2), okX_wf okX_zero]
  unfold keyOf
  rw [Try.underlying108]
  show (if (Try.prog.keyType 108 && (Value.agg n.V.toArray).formed Try.prog 108) = true then (Try.prog.keyLits (Try.prog.types.size + 1) 108 n.V).map _ else none) = _
  rw [if_pos (by simp [nodeKind, Value.formed, Nd.V, Try.underlying108, nodeCells]), e]
  rfl
theorem keyNd_inj {n n' : Nd} (h : n.small) (h' : n'.small) (e : keyNd n = keyNd n') : n = n' := by
  have h1 := keyNd_ok h
  rw [e] at h1
  exact Nd.V_inj ((Maps.Keyed.of_law nodeLaw).inj h1 (keyNd_ok h'))
/-- A map of nodes: those that are not in a list have no entry. -/
def NodM (w : World) (b n : Nat) (l : List Nd) : Prop :=
  ∃ D, w.ownsMap Try.prog 108 rawR b n D ∧ ∀ nd : Nd, nd.small → nd ∉ l → Maps.has D (keyNd nd) = false
theorem NodM.made (w : World) : NodM (w.alloc (.map #[] 0)) w.heap.size 0 [] := ⟨.map [], World.ownsMap_made _ _ _ _, fun _ _ _ => by simp [Maps.has]⟩
theorem NodM.below {w w1 : World} {b n : Nat} {l : List Nd} (h : NodM w b n l) (hb : Below w.heap.size w w1) : NodM w1 b n l := by
  obtain ⟨D, ho, hm⟩ := h
  exact ⟨D, ownsMap_below ho hb, hm⟩
theorem NodM.kept {w w1 : World} {b n : Nat} {l : List Nd} {row : Option Nat} (h : NodM w b n l) (hg : w.grownBy w1 row) (hne : row ≠ some b) : NodM w1 b n l := by
  obtain ⟨D, ho, hm⟩ := h
  exact ⟨D, ho.kept hg (fun e => hne e.symm), hm⟩
theorem NodM.ne_blk {w : World} {b n b' : Nat} {l : List Nd} {T : TypeId} {xs : Array Value} (h : NodM w b n l) (hb : Blk w b' T xs) : b' ≠ b := by
  obtain ⟨D, ⟨es, clock, hm, -⟩, -⟩ := h
  rintro rfl
  have := (show w.heap[b']? = _ from hb).symm.trans hm
  simp at this
theorem NodM.lt {w : World} {b n : Nat} {l : List Nd} (h : NodM w b n l) : b < w.heap.size := by
  obtain ⟨D, ho, -⟩ := h
  exact ho.lt
theorem NodM.look_ok {w : World} {b n : Nat} {l : List Nd} {nd : Nd} (h : NodM w b n l) (hs : nd.small) (hn : nd ∉ l) : (Instr.lookup 161 (.map (some b)) (.agg nd.V.toArray) true).run Try.prog w = .ok (.tuple #[.int .i64 0, .bool false]) w := by
  obtain ⟨D, ho, hm⟩ := h
  obtain ⟨v, ps, hrun, hv⟩ := ho.look_ok (Maps.Keyed.of_law nodeLaw) Try.underlying161 (zeroInt w) (show rawR (.int .i64 0) = some (.held (.int .i64 0), []) from rfl) (keyNd_ok hs)
  rw [hrun]
  have e := rawR_at hv
  have h1 := hm nd hs hn
  rw [Maps.atKey_of_not_has h1] at e
  have e := DataW.held.inj e
  subst e
  rw [h1]
theorem NodM.put {w : World} {b n : Nat} {l : List Nd} {nd : Nd} (h : NodM w b n l) (hs : nd.small) (hn : n < 65536) (v : Int) : ∃ w', (Instr.mapUpdate 161 (.map (some b)) (.agg nd.V.toArray) (.int .i64 v)).run Try.prog w = .ok () w' ∧ NodM w' b (n + 1) (l ++ [nd]) ∧ w.grownBy w' (some b) := by
  obtain ⟨D, ho, hm⟩ := h
  obtain ⟨w', hrun, ho', hg⟩ := ho.update (Maps.Keyed.of_law nodeLaw) Try.underlying161 (by unfold maxLen; omega) (keyNd_ok hs) (show rawR (.int .i64 v) = some (.held (.int .i64 v), []) from rfl)
  refine ⟨w', hrun, ⟨_, ho', fun n1 h1 h2 => ?_⟩, hg⟩
  have hne : n1 ≠ nd := fun e => h2 (by rw [e]; simp)
  rw [Maps.has_put_other (fun e => hne (keyNd_inj h1 hs e))]
  exact hm n1 h1 fun hx => h2 (List.mem_append.2 (.inl hx))
/-- A cell that is stored with what it holds. -/
theorem setCell_self {w : World} {b k : Nat} {T : TypeId} {xs : Array Value} {v : Value} (h : Blk w b T xs) (hk : xs[k]? = some v) : w.setCell ⟨b, k, none⟩ v = w := by
  have h0 : w.heap.modify b (fun | .cells c elem frozen => .cells (if (none : Option Nat).isSome then c else c.setIfInBounds k v) elem frozen | o => o) = w.heap := by
    apply Array.ext_getElem?
    intro i
    rw [Array.getElem?_modify]
    by_cases e : b = i
    · subst e
      rw [if_pos rfl, show w.heap[b]? = _ from h]
      simp only [Option.map_some, Option.isSome_none, Bool.false_eq_true, if_false]
      congr 2
      apply Array.ext_getElem?
      intro j
      by_cases ej : k = j
      · subst ej
        rw [Array.getElem?_setIfInBounds_self, hk]
        have := (Array.getElem?_eq_some_iff.1 hk).1
        simp [this]
      · rw [Array.getElem?_setIfInBounds_ne ej]
    · rw [if_neg e]
  exact congrArg (fun hp => ({ w with heap := hp } : World)) h0
/-- From the nodes below the first number finished, the second one is finished last, each in its turn. -/
inductive Fin3 (l : List Nd) : Nat → Nat → Prop where
  | leaf (i : Nat) (nd : Nd) (h : l[i]? = some nd) (hx : nd.ux = false) (hy : nd.uy = false) : Fin3 l i i
  | one (m i x : Nat) (h : l[i]? = some (.N x)) (hf : Fin3 l m x) (hi : x + 1 = i) : Fin3 l m i
  | two (m i x y : Nat) (h : l[i]? = some (.C x y)) (hf : Fin3 l m x) (hg : Fin3 l (x + 1) y) (hi : y + 1 = i) : Fin3 l m i
theorem Fin3.le {l : List Nd} {m i : Nat} (h : Fin3 l m i) : m ≤ i := by
  induction h with
  | leaf => exact Nat.le_refl _
  | one => omega
  | two => omega
theorem Fin3.lt {l : List Nd} {m i : Nat} (h : Fin3 l m i) : i < l.length := by
  cases h with
  | leaf _ _ h => exact (List.getElem?_eq_some_iff.1 h).1
  | one _ _ _ h => exact (List.getElem?_eq_some_iff.1 h).1
  | two _ _ _ _ h => exact (List.getElem?_eq_some_iff.1 h).1
/-- No node stands twice. -/
def NdU (l : List Nd) : Prop := ∀ (i j : Nat) (n : Nd), l[i]? = some n → l[j]? = some n → i = j
theorem NdU.fresh {l : List Nd} (h : NdU l) {m : Nat} {n : Nd} (hn : l[m]? = some n) : n ∉ l.take m := fun hm => by
  obtain ⟨j, hj⟩ := List.mem_iff_getElem?.1 hm
  have hjm : j < m := by
    have := (List.getElem?_eq_some_iff.1 hj).1
    rw [List.length_take] at this
    omega
  rw [List.getElem?_take_of_lt hjm] at hj
  have := h j m n hj hn
  omega
/-- The captured cells of finish, when m nodes are finished. -/
structure CpS (w0 W : World) (bO bF bN bD bS mN mD : Nat) (l : List Nd) (fv : Value) (m : Nat) (ov : Value) : Prop where
  low : Below w0.heap.size w0 W
  hO : w0.heap.size ≤ bO
  hN : w0.heap.size ≤ mN
  hD : w0.heap.size ≤ mD
  ne : mN ≠ mD
  nf : bF ≠ bO
  out : Blk W bO 56 #[ov]
  own : NdO W w0.heap.size ov (l.take m)
  f : Blk W bF 56 #[fv]
  fl : NdO w0 0 fv l
  num : Blk W bN 161 #[.map (some mN)]
  numM : NodM W mN m (l.take m)
  don : Blk W bD 96 #[.map (some mD)]
  donM : IntM W mD m (fun k => if k < m then some (k : Int) else none)
  self : Blk W bS 87 #[.func (.func 130) #[] #[.pointer (some ⟨bD, 0, none⟩), .pointer (some ⟨bF, 0, none⟩), .pointer (some ⟨bS, 0, none⟩), .pointer (some ⟨bN, 0, none⟩), .pointer (some ⟨bO, 0, none⟩)]]
section
variable {w0 W W1 : World} {bO bF bN bD bS mN mD : Nat} {l : List Nd} {fv : Value} {m : Nat} {ov : Value}
theorem CpS.below (h : CpS w0 W bO bF bN bD bS mN mD l fv m ov) (hb : Below W.heap.size W W1) : CpS w0 W1 bO bF bN bD bS mN mD l fv m ov :=
  ⟨below_trans h.low hb, h.hO, h.hN, h.hD, h.ne, h.nf, h.out.below hb, h.own.below hb, h.f.below hb, h.fl, h.num.below hb, h.numM.below hb, h.don.below hb, h.donM.below hb, h.self.below hb⟩
/-- What finish leaves alone. -/
structure CpR (bO : Nat) (W W' : World) (ov ov' : Value) : Prop where
  size : W.heap.size ≤ W'.heap.size
  keep : ∀ (j : Nat) cs T fr, W.heap[j]? = some (.cells cs T fr) → j ≠ bO → ov.ownBlock ≠ some j → W'.heap[j]? = some (.cells cs T fr)
  loc : ∀ q, ov'.ownBlock = some q → ov.ownBlock = some q ∨ W.heap.size ≤ q
theorem CpR.trans {bO : Nat} {W1 W2 W3 : World} {o1 o2 o3 : Value} (h : CpR bO W1 W2 o1 o2) (h' : CpR bO W2 W3 o2 o3) : CpR bO W1 W3 o1 o3 :=
  ⟨Nat.le_trans h.size h'.size, fun j cs T fr hj h1 h2 => h'.keep j cs T fr (h.keep j cs T fr hj h1 h2) h1 fun e => by
    rcases h.loc j e with h3 | h3
    · exact h2 h3
    · have := (Array.getElem?_eq_some_iff.1 hj).1
      omega, fun q hq => by
    rcases h'.loc q hq with h3 | h3
    · exact h.loc q h3
    · exact .inr (Nat.le_trans h.size h3)⟩
theorem CpR.below {bO : Nat} {W1 W2 : World} {o : Value} (h : Below W1.heap.size W1 W2) : CpR bO W1 W2 o o := ⟨h.size, fun j _ _ _ hj _ _ => (h.block j (Array.getElem?_eq_some_iff.1 hj).1).trans hj, fun _ h => .inl h⟩
theorem CpR.blk {bO b : Nat} {W1 W2 : World} {o o' : Value} {T : TypeId} {xs : Array Value} (h : CpR bO W1 W2 o o') (hb : Blk W1 b T xs) (h1 : b ≠ bO) (h2 : o.ownBlock ≠ some b) : Blk W2 b T xs := h.keep b xs T (0, 0) hb h1 h2
theorem NodM.keeps {w w' : World} {b n : Nat} {l : List Nd} (h : NodM w b n l) (hg : w.grownBy w' (some b)) (T : TypeId) : Keeps w w' T := by
  obtain ⟨D, ho, -⟩ := h
  exact Keeps.map ho hg T
theorem IntM.keeps {w w' : World} {b n : Nat} {m : Nat → Option Int} (h : IntM w b n m) (hg : w.grownBy w' (some b)) (T : TypeId) : Keeps w w' T := by
  obtain ⟨D, ho, -⟩ := h
  exact Keeps.map ho hg T
theorem NodM.ne_own {w : World} {b n base e sz k : Nat} {l : List Nd} {v : Value} {xs : List Value} (h : NodM w b n l) (hr : w.ownsRow base e sz v k xs) : v.ownBlock ≠ some b := by
  obtain ⟨D, ⟨es, clock, hm, -⟩, -⟩ := h
  rcases hr.2 with ⟨rfl, _⟩ | ⟨g, cap, cur, rfl, _, hgb, _⟩
  · simp [Value.ownBlock]
  · intro e'
    obtain rfl : g = b := by simpa [Value.ownBlock] using e'
    have := hgb.symm.trans hm
    simp at this
theorem IntM.ne_own {w : World} {b n base e sz k : Nat} {m : Nat → Option Int} {v : Value} {xs : List Value} (h : IntM w b n m) (hr : w.ownsRow base e sz v k xs) : v.ownBlock ≠ some b := by
  obtain ⟨D, ⟨es, clock, hm, -⟩, -⟩ := h
  rcases hr.2 with ⟨rfl, _⟩ | ⟨g, cap, cur, rfl, _, hgb, _⟩
  · simp [Value.ownBlock]
  · intro e'
    obtain rfl : g = b := by simpa [Value.ownBlock] using e'
    have := hgb.symm.trans hm
    simp at this
theorem CpR.grown {bO b : Nat} {W1 W2 : World} {o : Value} (hg : W1.grownBy W2 (some b)) (hb : ∀ cs T fr, W1.heap[b]? ≠ some (.cells cs T fr)) : CpR bO W1 W2 o o :=
  ⟨hg.size, fun j cs T fr hj _ _ => (hg.block j (Array.getElem?_eq_some_iff.1 hj).1 fun e => by
    injection e with e
    subst e
    exact hb _ _ _ hj).trans hj, fun _ h => .inl h⟩
theorem NodM.no_cells {w : World} {b n : Nat} {l : List Nd} (h : NodM w b n l) : ∀ cs T fr, w.heap[b]? ≠ some (.cells cs T fr) := by
  obtain ⟨D, ⟨es, clock, hm, -⟩, -⟩ := h
  intro cs T fr e
  have := e.symm.trans hm
  simp at this
theorem IntM.no_cells {w : World} {b n : Nat} {m : Nat → Option Int} (h : IntM w b n m) : ∀ cs T fr, w.heap[b]? ≠ some (.cells cs T fr) := by
  obtain ⟨D, ⟨es, clock, hm, -⟩, -⟩ := h
  intro cs T fr e
  have := e.symm.trans hm
  simp at this
/-- The tail of finish: one node more. -/
theorem CpS.tail {V w3 : World} {v' : Value} {nd : Nd} {o : Obj} {xb : Nat} (h : CpS w0 V bO bF bN bD bS mN mD l fv m ov) (hnd : l[m]? = some nd) (hs : nd.small) (hm : m ≤ 200)
    (hX : Blk V xb 108 nd.V.toArray) (hXO : ov.ownBlock ≠ some xb)
    (hown : w3.ownsRow w0.heap.size 108 6 v' (m + 1) (ndL (l.take m) ++ nd.V)) (hg : (V.alloc o).grownBy w3 ov.ownBlock) (hloc : v'.ownBlock = ov.ownBlock ∨ v'.ownBlock = some (V.alloc o).heap.size) :
    ∃ W6 W7, (Instr.mapUpdate 161 (.map (some mN)) (.agg nd.V.toArray) (.int .i64 m)).run Try.prog (w3.setCell ⟨bO, 0, none⟩ v') = .ok () W6 ∧
      (Instr.mapUpdate 96 (.map (some mD)) (.int .i64 m) (.int .i64 m)).run Try.prog W6 = .ok () W7 ∧
      Blk (w3.setCell ⟨bO, 0, none⟩ v') bN 161 #[.map (some mN)] ∧ Blk (w3.setCell ⟨bO, 0, none⟩ v') xb 108 nd.V.toArray ∧ Blk W6 bD 96 #[.map (some mD)] ∧
      CpS w0 W7 bO bF bN bD bS mN mD l fv (m + 1) v' ∧ CpR bO V W7 ov v' := by
  have htk : l.take (m + 1) = l.take m ++ [nd] := by rw [List.take_add_one, hnd]; rfl
  have hml := (List.getElem?_eq_some_iff.1 hnd).1
  have hba := below_alloc V o
  have hso : (V.alloc o).heap.size = V.heap.size + 1 := by simp
  have hO3 : Blk w3 bO 56 #[ov] := (h.out.alloc o).kept hg ((h.out.alloc o).ne_row' (own_alloc' h.own o) (by decide))
  have hr3 : CpR bO V w3 ov v' := ⟨Nat.le_trans hba.size hg.size, fun j cs T fr hj h1 h2 => by
    have hlt := (Array.getElem?_eq_some_iff.1 hj).1
    exact (hg.block j (by omega) fun e => h2 e.symm).trans ((hba.block j hlt).trans hj), fun q hq => by
    rcases hloc with e | e
    · exact .inl (e ▸ hq)
    · rw [e] at hq
      injection hq with hq
      exact .inr (by omega)⟩
  have hr5 : CpR bO V (w3.setCell ⟨bO, 0, none⟩ v') ov v' := ⟨by simpa [World.setCell] using hr3.size, fun j cs T fr hj h1 h2 => by
    have := hr3.keep j cs T fr hj h1 h2
    exact (Below.heap_setCell _ _ _ _ (fun e => h1 e)).trans this, hr3.loc⟩
  have hgs := gr_set w3 bO 0 v'
  have hN3 : NodM w3 mN m (l.take m) := (h.numM.below hba).kept hg (h.numM.ne_own h.own)
  have hD3 := (h.donM.below hba).kept hg (h.donM.ne_own h.own)
  have hN5 : NodM (w3.setCell ⟨bO, 0, none⟩ v') mN m (l.take m) := hN3.kept hgs (fun e => hN3.ne_blk hO3 (by injection e))
  have hD5 := hD3.kept hgs (fun e => hD3.ne_blk hO3 (by injection e))
  have hO5 : Blk (w3.setCell ⟨bO, 0, none⟩ v') bO 56 #[v'] := hO3.set 0 v'
  have hw5 : NdO (w3.setCell ⟨bO, 0, none⟩ v') w0.heap.size v' (l.take (m + 1)) := by
    unfold NdO
    rw [htk, ndL_snoc, List.length_append, List.length_take, Nat.min_eq_left (by omega)]
    exact own_keeps hown (Keeps.of_set hO3 (by decide) 0 v')
  have hl5 : Below w0.heap.size w0 (w3.setCell ⟨bO, 0, none⟩ v') := (below_append h.low rfl h.own hg).setCell (p := ⟨bO, 0, none⟩) h.hO v'
  have hbk : ∀ {b : Nat} {T : TypeId} {xs : Array Value}, Blk V b T xs → b ≠ bO → T ≠ 108 → Blk (w3.setCell ⟨bO, 0, none⟩ v') b T xs := fun hb h1 h2 => hr5.blk hb h1 (hb.ne_row' h.own h2)
  have hF5 := hbk h.f h.nf (by decide)
  have hn5 := hbk h.num (h.num.ne h.out (by decide)) (by decide)
  have hd5 := hbk h.don (h.don.ne h.out (by decide)) (by decide)
  have hs5 := hbk h.self (h.self.ne h.out (by decide)) (by decide)
  have hx5 : Blk (w3.setCell ⟨bO, 0, none⟩ v') xb 108 nd.V.toArray := hr5.blk hX (hX.ne h.out (by decide)) hXO
  obtain ⟨W6, hrun6, hN6, hg6⟩ := hN5.put (nd := nd) hs (by omega) m
  have hD6 := hD5.kept hg6 (fun e => h.ne (Option.some.inj e))
  obtain ⟨W7, hrun7, hD7, hg7⟩ := hD6.put (k := m) (by omega) (by omega) m
  refine ⟨W6, W7, hrun6, hrun7, hn5, hx5, hN5.keeps hg6 _ _ _ hd5, ?_, ?_⟩
  · refine ⟨?_, h.hO, h.hN, h.hD, h.ne, h.nf, hD6.keeps hg7 _ _ _ (hN5.keeps hg6 _ _ _ hO5), own_keeps (own_keeps hw5 (hN5.keeps hg6 _)) (hD6.keeps hg7 _), hD6.keeps hg7 _ _ _ (hN5.keeps hg6 _ _ _ hF5), h.fl, hD6.keeps hg7 _ _ _ (hN5.keeps hg6 _ _ _ hn5), ?_, hD6.keeps hg7 _ _ _ (hN5.keeps hg6 _ _ _ hd5), ?_, hD6.keeps hg7 _ _ _ (hN5.keeps hg6 _ _ _ hs5)⟩
    · refine (hl5.grown hg6 hl5.size ?_).grown hg7 (Nat.le_trans hl5.size hg6.size) ?_
      · intro k e; injection e with e; rw [← e]; exact h.hN
      · intro k e; injection e with e; rw [← e]; exact h.hD
    · rw [htk]
      exact hN6.kept hg7 (fun e => h.ne (Option.some.inj e).symm)
    · refine hD7.congr fun k => ?_
      by_cases e : k = m
      · subst e
        rw [if_pos rfl, if_pos (Nat.lt_succ_self _)]
      · rw [if_neg e]
        by_cases e2 : k < m
        · rw [if_pos e2, if_pos (by omega)]
        · rw [if_neg e2, if_neg (by omega)]
  · exact (hr5.trans (CpR.grown hg6 hN5.no_cells)).trans (CpR.grown hg7 hD6.no_cells)
end
end Go.Proofs.Ytahaimecchdfeaa

/-
  Walks: the formulas' operators: what each uses; nodes that are right.
-/
namespace Go.Proofs.Ytahaimecchdfeaa
open Go.RowKit

/-- What an operator uses. -/
def useC (x y fact agent group event : Bool) (frag : Int) : Array Value := #[.bool x, .bool y, .bool fact, .bool agent, .bool group, .bool event, .int .i64 frag]
theorem uses_end {w : World} {x y fact agent group event : Bool} {frag : Int} : ∀ k v, (useC x y fact agent group event frag)[k]? = some v → (w.alloc (.cells (useC x y fact agent group event frag) 135)).cell? ⟨w.heap.size, k, none⟩ = some v := fun _ _ h => (Blk.new w (useC x y fact agent group event frag) 135).cell h
theorem uses_T (w : World) : Calls Try.prog 91 #[.int .i64 1] w fun e w' => e = .returned (.tuple #[.agg #[.bool false, .bool false, .bool false, .bool false, .bool false, .bool false, .int .i64 0], .bool true]) ∧ Below w.heap.size w w' := by
  have h := uses_end (w := w) (x := false) (y := false) (fact := false) (agent := false) (group := false) (event := false) (frag := 0)
  have q0 := h 0 _ rfl
  have q1 := h 1 _ rfl
  have q2 := h 2 _ rfl
  have q3 := h 3 _ rfl
  have q4 := h 4 _ rfl
  have q5 := h 5 _ rfl
  have q6 := h 6 _ rfl
  have HB := Lib.hid (below_alloc w (.cells #[.bool false, .bool false, .bool false, .bool false, .bool false, .bool false, .int .i64 0] 135))
  unfold useC at q0 q1 q2 q3 q4 q5 q6
  clear h
  go_enter Try.func91, Try.ntmps91
  go_wp2_with fail
  exact bodyPost_ret (v := .tuple #[.agg #[.bool false, .bool false, .bool false, .bool false, .bool false, .bool false, .int .i64 0], .bool true]) (by simp [results, Try.results91, go_sem, q0, q1, q2, q3, q4, q5, q6]) rfl ⟨rfl, HB.out⟩
theorem uses_F (w : World) : Calls Try.prog 91 #[.int .i64 3] w fun e w' => e = .returned (.tuple #[.agg #[.bool false, .bool false, .bool true, .bool false, .bool false, .bool false, .int .i64 0], .bool true]) ∧ Below w.heap.size w w' := by
  have h := uses_end (w := w) (x := false) (y := false) (fact := true) (agent := false) (group := false) (event := false) (frag := 0)
  have q0 := h 0 _ rfl
  have q1 := h 1 _ rfl
  have q2 := h 2 _ rfl
  have q3 := h 3 _ rfl
  have q4 := h 4 _ rfl
  have q5 := h 5 _ rfl
  have q6 := h 6 _ rfl
  have HB := Lib.hid (below_alloc w (.cells #[.bool false, .bool false, .bool true, .bool false, .bool false, .bool false, .int .i64 0] 135))
  unfold useC at q0 q1 q2 q3 q4 q5 q6
  clear h
  go_enter Try.func91, Try.ntmps91
  go_wp2_with fail
  exact bodyPost_ret (v := .tuple #[.agg #[.bool false, .bool false, .bool true, .bool false, .bool false, .bool false, .int .i64 0], .bool true]) (by simp [results, Try.results91, go_sem, q0, q1, q2, q3, q4, q5, q6]) rfl ⟨rfl, HB.out⟩
theorem uses_N (w : World) : Calls Try.prog 91 #[.int .i64 4] w fun e w' => e = .returned (.tuple #[.agg #[.bool true, .bool false, .bool false, .bool false, .bool false, .bool false, .int .i64 0], .bool true]) ∧ Below w.heap.size w w' := by
  have h := uses_end (w := w) (x := true) (y := false) (fact := false) (agent := false) (group := false) (event := false) (frag := 0)
  have q0 := h 0 _ rfl
  have q1 := h 1 _ rfl
  have q2 := h 2 _ rfl
  have q3 := h 3 _ rfl
  have q4 := h 4 _ rfl
  have q5 := h 5 _ rfl
  have q6 := h 6 _ rfl
  have HB := Lib.hid (below_alloc w (.cells #[.bool true, .bool false, .bool false, .bool false, .bool false, .bool false, .int .i64 0] 135))
  unfold useC at q0 q1 q2 q3 q4 q5 q6
  clear h
  go_enter Try.func91, Try.ntmps91
  go_wp2_with fail
  exact bodyPost_ret (v := .tuple #[.agg #[.bool true, .bool false, .bool false, .bool false, .bool false, .bool false, .int .i64 0], .bool true]) (by simp [results, Try.results91, go_sem, q0, q1, q2, q3, q4, q5, q6]) rfl ⟨rfl, HB.out⟩
theorem uses_C (w : World) : Calls Try.prog 91 #[.int .i64 13] w fun e w' => e = .returned (.tuple #[.agg #[.bool true, .bool true, .bool false, .bool false, .bool true, .bool false, .int .i64 8], .bool true]) ∧ Below w.heap.size w w' := by
  have h := uses_end (w := w) (x := true) (y := true) (fact := false) (agent := false) (group := true) (event := false) (frag := 8)
  have q0 := h 0 _ rfl
  have q1 := h 1 _ rfl
  have q2 := h 2 _ rfl
  have q3 := h 3 _ rfl
  have q4 := h 4 _ rfl
  have q5 := h 5 _ rfl
  have q6 := h 6 _ rfl
  have HB := Lib.hid (below_alloc w (.cells #[.bool true, .bool true, .bool false, .bool false, .bool true, .bool false, .int .i64 8] 135))
  unfold useC at q0 q1 q2 q3 q4 q5 q6
  clear h
  go_enter Try.func91, Try.ntmps91
  go_wp2_with fail
  exact bodyPost_ret (v := .tuple #[.agg #[.bool true, .bool true, .bool false, .bool false, .bool true, .bool false, .int .i64 8], .bool true]) (by simp [results, Try.results91, go_sem, q0, q1, q2, q3, q4, q5, q6]) rfl ⟨rfl, HB.out⟩
/-- A field that is right for an operand that is used, or not. -/
theorem operand_ok (u : Bool) (f at_ : Nat) (w : World) (h : (u = true ∧ f < at_) ∨ (u = false ∧ f = 0)) : Calls Try.prog 128 #[.bool u, .int .i64 f, .int .i64 at_] w fun e w' => e = .returned (.bool true) ∧ w = w' := by
  rcases h with ⟨rfl, h⟩ | ⟨rfl, rfl⟩
  · have t1 : decide ((f : Int) ≥ 0) = true := decide_eq_true (by omega)
    have t2 : decide ((f : Int) < (at_ : Int)) = true := decide_eq_true (by omega)
    have t2b : decide (f < at_) = true := decide_eq_true h
    go_enter Try.func128, Try.ntmps128
    go_wp2_with fail
    go_ret
    exact ⟨rfl, rfl⟩
  · go_enter Try.func128, Try.ntmps128
    go_wp2_with fail
    go_ret
    exact ⟨rfl, rfl⟩
theorem outside_ok (u : Bool) (v lo hi : Nat) (w : World) (h : u = false ∨ (lo ≤ v ∧ v ≤ hi)) : Calls Try.prog 129 #[.bool u, .int .i64 v, .int .i64 lo, .int .i64 hi] w fun e w' => e = .returned (.bool false) ∧ w = w' := by
  cases u with
  | false =>
    go_enter Try.func129, Try.ntmps129
    go_wp2_with fail
    go_ret
    exact ⟨rfl, rfl⟩
  | true =>
    have h := h.resolve_left (by decide)
    have t1 : decide ((v : Int) < (lo : Int)) = false := decide_eq_false (by omega)
    have t1b : decide (v < lo) = false := decide_eq_false (by omega)
    have t2 : decide ((hi : Int) < (v : Int)) = false := decide_eq_false (by omega)
    have t2b : decide (hi < v) = false := decide_eq_false (by omega)
    clear h
    go_enter Try.func129, Try.ntmps129
    go_wp2_with fail
    go_ret
    exact ⟨rfl, rfl⟩
end Go.Proofs.Ytahaimecchdfeaa

/-
  Walks: nodes that are right; lists that are right.
-/
namespace Go.Proofs.Ytahaimecchdfeaa
open Go.RowKit

theorem uses_any (n : Nd) (w : World) : Calls Try.prog 91 #[.int .i64 n.op] w fun e w' => e = .returned (.tuple #[.agg #[.bool n.ux, .bool n.uy, .bool n.uf, .bool false, .bool n.ug, .bool false, .int .i64 n.fr], .bool true]) ∧ Below w.heap.size w w' := by
  cases n with
  | T => exact uses_T w
  | F => exact uses_F w
  | N x => exact uses_N w
  | C x y => exact uses_C w
set_option maxHeartbeats 4000000 in
theorem nodeError_T (at_ : Nat) (w : World) : Calls Try.prog 92 #[.agg (Nd.V (.T)).toArray, .int .i64 at_] w fun e w' => e = .returned (.int .i64 0) ∧ Below w.heap.size w w' := by
  have HB := Lib.hid (below_alloc w (.cells (Nd.V (.T)).toArray 108))
  have q := NdC.new w (.T)
  have q0 : (w.alloc (.cells (Nd.V (.T)).toArray 108)).cell? ⟨w.heap.size, 0, none⟩ = some (.int .i64 1) := q.c0
  have q1 : (w.alloc (.cells (Nd.V (.T)).toArray 108)).cell? ⟨w.heap.size, 1, none⟩ = some (.int .i64 0) := q.c1
  have q2 : (w.alloc (.cells (Nd.V (.T)).toArray 108)).cell? ⟨w.heap.size, 2, none⟩ = some (.int .i64 0) := q.c2
  have q3 : (w.alloc (.cells (Nd.V (.T)).toArray 108)).cell? ⟨w.heap.size, 3, none⟩ = some (.int .i64 0) := q.c3
  have q4 : (w.alloc (.cells (Nd.V (.T)).toArray 108)).cell? ⟨w.heap.size, 4, none⟩ = some (.int .i64 0) := q.c4
  have q5 : (w.alloc (.cells (Nd.V (.T)).toArray 108)).cell? ⟨w.heap.size, 5, none⟩ = some (.int .i64 0) := q.c5
  clear q
  have hV : (Nd.V (.T)).toArray = #[.int .i64 1, .int .i64 0, .int .i64 0, .int .i64 0, .int .i64 0, .int .i64 0] := rfl
  rw [hV] at HB q0 q1 q2 q3 q4 q5 ⊢
  obtain ⟨W, eW⟩ : ∃ W, W = w.alloc (.cells #[.int .i64 1, .int .i64 0, .int .i64 0, .int .i64 0, .int .i64 0, .int .i64 0] 108) := ⟨_, rfl⟩
  rw [← eW] at HB q0 q1 q2 q3 q4 q5
  have HW := Lib.hid eW.symm
  clear eW hV
  go_enter Try.func92, Try.ntmps92
  go_upto_region 1 with (fail)
  rw [HW.out]
  obtain ⟨b, eb⟩ : ∃ b, b = w.heap.size := ⟨_, rfl⟩
  rw [← eb] at q0 q1 q2 q3 q4 q5 ⊢
  clear eb
  go_upto_region 2 with (go_at_call 91; refine (uses_T _).mono ?_; rintro e w1 ⟨rfl, hb1⟩; replace q0 := cell_below hb1 q0; replace q1 := cell_below hb1 q1; replace q2 := cell_below hb1 q2; replace q3 := cell_below hb1 q3; replace q4 := cell_below hb1 q4; replace q5 := cell_below hb1 q5; have HB1 := Lib.hid (below_trans HB.out hb1); clear hb1)
  have u := Blk.new w1 #[.bool false, .bool false, .bool false, .bool false, .bool false, .bool false, .int .i64 0] 135
  have hb2 := below_alloc w1 (.cells #[.bool false, .bool false, .bool false, .bool false, .bool false, .bool false, .int .i64 0] 135)
  obtain ⟨W2, eW2⟩ : ∃ W2, W2 = w1.alloc (.cells #[.bool false, .bool false, .bool false, .bool false, .bool false, .bool false, .int .i64 0] 135) := ⟨_, rfl⟩
  rw [← eW2] at u hb2 ⊢
  replace q0 := cell_below hb2 q0
  replace q1 := cell_below hb2 q1
  replace q2 := cell_below hb2 q2
  replace q3 := cell_below hb2 q3
  replace q4 := cell_below hb2 q4
  replace q5 := cell_below hb2 q5
  have u0 : W2.cell? ⟨w1.heap.size, 0, none⟩ = some (.bool false) := u.cell (k := 0) rfl
  have u1 : W2.cell? ⟨w1.heap.size, 1, none⟩ = some (.bool false) := u.cell (k := 1) rfl
  have u2 : W2.cell? ⟨w1.heap.size, 2, none⟩ = some (.bool false) := u.cell (k := 2) rfl
  have u3 : W2.cell? ⟨w1.heap.size, 3, none⟩ = some (.bool false) := u.cell (k := 3) rfl
  have u4 : W2.cell? ⟨w1.heap.size, 4, none⟩ = some (.bool false) := u.cell (k := 4) rfl
  have u5 : W2.cell? ⟨w1.heap.size, 5, none⟩ = some (.bool false) := u.cell (k := 5) rfl
  have HB2 := Lib.hid (below_trans HB1.out hb2)
  clear u hb2 eW2
  obtain ⟨bu, ebu⟩ : ∃ b, b = w1.heap.size := ⟨_, rfl⟩
  rw [← ebu] at u0 u1 u2 u3 u4 u5 ⊢
  clear ebu
  go_wp2_with (first
    | (go_at_call 128; refine (operand_ok _ _ _ _ (by first | exact .inr ⟨rfl, rfl⟩ | exact .inl ⟨rfl, by omega⟩)).mono ?_; rintro e w' ⟨rfl, rfl⟩)
    | (go_at_call 129; refine (outside_ok _ _ _ _ _ (by first | exact .inl rfl | exact .inr (by decide))).mono ?_; rintro e w' ⟨rfl, rfl⟩))
  go_ret
  exact ⟨rfl, HB2.out⟩
set_option maxHeartbeats 4000000 in
theorem nodeError_F (at_ : Nat) (w : World) : Calls Try.prog 92 #[.agg (Nd.V (.F)).toArray, .int .i64 at_] w fun e w' => e = .returned (.int .i64 0) ∧ Below w.heap.size w w' := by
  have HB := Lib.hid (below_alloc w (.cells (Nd.V (.F)).toArray 108))
  have q := NdC.new w (.F)
  have q0 : (w.alloc (.cells (Nd.V (.F)).toArray 108)).cell? ⟨w.heap.size, 0, none⟩ = some (.int .i64 3) := q.c0
  have q1 : (w.alloc (.cells (Nd.V (.F)).toArray 108)).cell? ⟨w.heap.size, 1, none⟩ = some (.int .i64 0) := q.c1
  have q2 : (w.alloc (.cells (Nd.V (.F)).toArray 108)).cell? ⟨w.heap.size, 2, none⟩ = some (.int .i64 0) := q.c2
  have q3 : (w.alloc (.cells (Nd.V (.F)).toArray 108)).cell? ⟨w.heap.size, 3, none⟩ = some (.int .i64 0) := q.c3
  have q4 : (w.alloc (.cells (Nd.V (.F)).toArray 108)).cell? ⟨w.heap.size, 4, none⟩ = some (.int .i64 0) := q.c4
  have q5 : (w.alloc (.cells (Nd.V (.F)).toArray 108)).cell? ⟨w.heap.size, 5, none⟩ = some (.int .i64 0) := q.c5
  clear q
  have hV : (Nd.V (.F)).toArray = #[.int .i64 3, .int .i64 0, .int .i64 0, .int .i64 0, .int .i64 0, .int .i64 0] := rfl
  rw [hV] at HB q0 q1 q2 q3 q4 q5 ⊢
  obtain ⟨W, eW⟩ : ∃ W, W = w.alloc (.cells #[.int .i64 3, .int .i64 0, .int .i64 0, .int .i64 0, .int .i64 0, .int .i64 0] 108) := ⟨_, rfl⟩
  rw [← eW] at HB q0 q1 q2 q3 q4 q5
  have HW := Lib.hid eW.symm
  clear eW hV
  go_enter Try.func92, Try.ntmps92
  go_upto_region 1 with (fail)
  rw [HW.out]
  obtain ⟨b, eb⟩ : ∃ b, b = w.heap.size := ⟨_, rfl⟩
  rw [← eb] at q0 q1 q2 q3 q4 q5 ⊢
  clear eb
  go_upto_region 2 with (go_at_call 91; refine (uses_F _).mono ?_; rintro e w1 ⟨rfl, hb1⟩; replace q0 := cell_below hb1 q0; replace q1 := cell_below hb1 q1; replace q2 := cell_below hb1 q2; replace q3 := cell_below hb1 q3; replace q4 := cell_below hb1 q4; replace q5 := cell_below hb1 q5; have HB1 := Lib.hid (below_trans HB.out hb1); clear hb1)
  have u := Blk.new w1 #[.bool false, .bool false, .bool true, .bool false, .bool false, .bool false, .int .i64 0] 135
  have hb2 := below_alloc w1 (.cells #[.bool false, .bool false, .bool true, .bool false, .bool false, .bool false, .int .i64 0] 135)
  obtain ⟨W2, eW2⟩ : ∃ W2, W2 = w1.alloc (.cells #[.bool false, .bool false, .bool true, .bool false, .bool false, .bool false, .int .i64 0] 135) := ⟨_, rfl⟩
  rw [← eW2] at u hb2 ⊢
  replace q0 := cell_below hb2 q0
  replace q1 := cell_below hb2 q1
  replace q2 := cell_below hb2 q2
  replace q3 := cell_below hb2 q3
  replace q4 := cell_below hb2 q4
  replace q5 := cell_below hb2 q5
  have u0 : W2.cell? ⟨w1.heap.size, 0, none⟩ = some (.bool false) := u.cell (k := 0) rfl
  have u1 : W2.cell? ⟨w1.heap.size, 1, none⟩ = some (.bool false) := u.cell (k := 1) rfl
  have u2 : W2.cell? ⟨w1.heap.size, 2, none⟩ = some (.bool true) := u.cell (k := 2) rfl
  have u3 : W2.cell? ⟨w1.heap.size, 3, none⟩ = some (.bool false) := u.cell (k := 3) rfl
  have u4 : W2.cell? ⟨w1.heap.size, 4, none⟩ = some (.bool false) := u.cell (k := 4) rfl
  have u5 : W2.cell? ⟨w1.heap.size, 5, none⟩ = some (.bool false) := u.cell (k := 5) rfl
  have HB2 := Lib.hid (below_trans HB1.out hb2)
  clear u hb2 eW2
  obtain ⟨bu, ebu⟩ : ∃ b, b = w1.heap.size := ⟨_, rfl⟩
  rw [← ebu] at u0 u1 u2 u3 u4 u5 ⊢
  clear ebu
  go_wp2_with (first
    | (go_at_call 128; refine (operand_ok _ _ _ _ (by first | exact .inr ⟨rfl, rfl⟩ | exact .inl ⟨rfl, by omega⟩)).mono ?_; rintro e w' ⟨rfl, rfl⟩)
    | (go_at_call 129; refine (outside_ok _ _ _ _ _ (by first | exact .inl rfl | exact .inr (by decide))).mono ?_; rintro e w' ⟨rfl, rfl⟩))
  go_ret
  exact ⟨rfl, HB2.out⟩
set_option maxHeartbeats 4000000 in
theorem nodeError_N (x at_ : Nat) (w : World) (h : x < at_) : Calls Try.prog 92 #[.agg (Nd.V (.N x)).toArray, .int .i64 at_] w fun e w' => e = .returned (.int .i64 0) ∧ Below w.heap.size w w' := by
  have HB := Lib.hid (below_alloc w (.cells (Nd.V (.N x)).toArray 108))
  have q := NdC.new w (.N x)
  have q0 : (w.alloc (.cells (Nd.V (.N x)).toArray 108)).cell? ⟨w.heap.size, 0, none⟩ = some (.int .i64 4) := q.c0
  have q1 : (w.alloc (.cells (Nd.V (.N x)).toArray 108)).cell? ⟨w.heap.size, 1, none⟩ = some (.int .i64 0) := q.c1
  have q2 : (w.alloc (.cells (Nd.V (.N x)).toArray 108)).cell? ⟨w.heap.size, 2, none⟩ = some (.int .i64 0) := q.c2
  have q3 : (w.alloc (.cells (Nd.V (.N x)).toArray 108)).cell? ⟨w.heap.size, 3, none⟩ = some (.int .i64 0) := q.c3
  have q4 : (w.alloc (.cells (Nd.V (.N x)).toArray 108)).cell? ⟨w.heap.size, 4, none⟩ = some (.int .i64 (x : Nat)) := q.c4
  have q5 : (w.alloc (.cells (Nd.V (.N x)).toArray 108)).cell? ⟨w.heap.size, 5, none⟩ = some (.int .i64 0) := q.c5
  clear q
  have hV : (Nd.V (.N x)).toArray = #[.int .i64 4, .int .i64 0, .int .i64 0, .int .i64 0, .int .i64 (x : Nat), .int .i64 0] := rfl
  rw [hV] at HB q0 q1 q2 q3 q4 q5 ⊢
  obtain ⟨W, eW⟩ : ∃ W, W = w.alloc (.cells #[.int .i64 4, .int .i64 0, .int .i64 0, .int .i64 0, .int .i64 (x : Nat), .int .i64 0] 108) := ⟨_, rfl⟩
  rw [← eW] at HB q0 q1 q2 q3 q4 q5
  have HW := Lib.hid eW.symm
  clear eW hV
  go_enter Try.func92, Try.ntmps92
  go_upto_region 1 with (fail)
  rw [HW.out]
  obtain ⟨b, eb⟩ : ∃ b, b = w.heap.size := ⟨_, rfl⟩
  rw [← eb] at q0 q1 q2 q3 q4 q5 ⊢
  clear eb
  go_upto_region 2 with (go_at_call 91; refine (uses_N _).mono ?_; rintro e w1 ⟨rfl, hb1⟩; replace q0 := cell_below hb1 q0; replace q1 := cell_below hb1 q1; replace q2 := cell_below hb1 q2; replace q3 := cell_below hb1 q3; replace q4 := cell_below hb1 q4; replace q5 := cell_below hb1 q5; have HB1 := Lib.hid (below_trans HB.out hb1); clear hb1)
  have u := Blk.new w1 #[.bool true, .bool false, .bool false, .bool false, .bool false, .bool false, .int .i64 0] 135
  have hb2 := below_alloc w1 (.cells #[.bool true, .bool false, .bool false, .bool false, .bool false, .bool false, .int .i64 0] 135)
  obtain ⟨W2, eW2⟩ : ∃ W2, W2 = w1.alloc (.cells #[.bool true, .bool false, .bool false, .bool false, .bool false, .bool false, .int .i64 0] 135) := ⟨_, rfl⟩
  rw [← eW2] at u hb2 ⊢
  replace q0 := cell_below hb2 q0
  replace q1 := cell_below hb2 q1
  replace q2 := cell_below hb2 q2
  replace q3 := cell_below hb2 q3
  replace q4 := cell_below hb2 q4
  replace q5 := cell_below hb2 q5
  have u0 : W2.cell? ⟨w1.heap.size, 0, none⟩ = some (.bool true) := u.cell (k := 0) rfl
  have u1 : W2.cell? ⟨w1.heap.size, 1, none⟩ = some (.bool false) := u.cell (k := 1) rfl
  have u2 : W2.cell? ⟨w1.heap.size, 2, none⟩ = some (.bool false) := u.cell (k := 2) rfl
  have u3 : W2.cell? ⟨w1.heap.size, 3, none⟩ = some (.bool false) := u.cell (k := 3) rfl
  have u4 : W2.cell? ⟨w1.heap.size, 4, none⟩ = some (.bool false) := u.cell (k := 4) rfl
  have u5 : W2.cell? ⟨w1.heap.size, 5, none⟩ = some (.bool false) := u.cell (k := 5) rfl
  have HB2 := Lib.hid (below_trans HB1.out hb2)
  clear u hb2 eW2
  obtain ⟨bu, ebu⟩ : ∃ b, b = w1.heap.size := ⟨_, rfl⟩
  rw [← ebu] at u0 u1 u2 u3 u4 u5 ⊢
  clear ebu
  go_wp2_with (first
    | (go_at_call 128; refine (operand_ok _ _ _ _ (by first | exact .inr ⟨rfl, rfl⟩ | exact .inl ⟨rfl, by omega⟩)).mono ?_; rintro e w' ⟨rfl, rfl⟩)
    | (go_at_call 129; refine (outside_ok _ _ _ _ _ (by first | exact .inl rfl | exact .inr (by decide))).mono ?_; rintro e w' ⟨rfl, rfl⟩))
  go_ret
  exact ⟨rfl, HB2.out⟩
set_option maxHeartbeats 4000000 in
theorem nodeError_C (x y at_ : Nat) (w : World) (h : x < at_) (h2 : y < at_) : Calls Try.prog 92 #[.agg (Nd.V (.C x y)).toArray, .int .i64 at_] w fun e w' => e = .returned (.int .i64 0) ∧ Below w.heap.size w w' := by
  have HB := Lib.hid (below_alloc w (.cells (Nd.V (.C x y)).toArray 108))
  have q := NdC.new w (.C x y)
  have q0 : (w.alloc (.cells (Nd.V (.C x y)).toArray 108)).cell? ⟨w.heap.size, 0, none⟩ = some (.int .i64 13) := q.c0
  have q1 : (w.alloc (.cells (Nd.V (.C x y)).toArray 108)).cell? ⟨w.heap.size, 1, none⟩ = some (.int .i64 0) := q.c1
  have q2 : (w.alloc (.cells (Nd.V (.C x y)).toArray 108)).cell? ⟨w.heap.size, 2, none⟩ = some (.int .i64 0) := q.c2
  have q3 : (w.alloc (.cells (Nd.V (.C x y)).toArray 108)).cell? ⟨w.heap.size, 3, none⟩ = some (.int .i64 3) := q.c3
  have q4 : (w.alloc (.cells (Nd.V (.C x y)).toArray 108)).cell? ⟨w.heap.size, 4, none⟩ = some (.int .i64 (x : Nat)) := q.c4
  have q5 : (w.alloc (.cells (Nd.V (.C x y)).toArray 108)).cell? ⟨w.heap.size, 5, none⟩ = some (.int .i64 (y : Nat)) := q.c5
  clear q
  have hV : (Nd.V (.C x y)).toArray = #[.int .i64 13, .int .i64 0, .int .i64 0, .int .i64 3, .int .i64 (x : Nat), .int .i64 (y : Nat)] := rfl
  rw [hV] at HB q0 q1 q2 q3 q4 q5 ⊢
  obtain ⟨W, eW⟩ : ∃ W, W = w.alloc (.cells #[.int .i64 13, .int .i64 0, .int .i64 0, .int .i64 3, .int .i64 (x : Nat), .int .i64 (y : Nat)] 108) := ⟨_, rfl⟩
  rw [← eW] at HB q0 q1 q2 q3 q4 q5
  have HW := Lib.hid eW.symm
  clear eW hV
  go_enter Try.func92, Try.ntmps92
  go_upto_region 1 with (fail)
  rw [HW.out]
  obtain ⟨b, eb⟩ : ∃ b, b = w.heap.size := ⟨_, rfl⟩
  rw [← eb] at q0 q1 q2 q3 q4 q5 ⊢
  clear eb
  go_upto_region 2 with (go_at_call 91; refine (uses_C _).mono ?_; rintro e w1 ⟨rfl, hb1⟩; replace q0 := cell_below hb1 q0; replace q1 := cell_below hb1 q1; replace q2 := cell_below hb1 q2; replace q3 := cell_below hb1 q3; replace q4 := cell_below hb1 q4; replace q5 := cell_below hb1 q5; have HB1 := Lib.hid (below_trans HB.out hb1); clear hb1)
  have u := Blk.new w1 #[.bool true, .bool true, .bool false, .bool false, .bool true, .bool false, .int .i64 8] 135
  have hb2 := below_alloc w1 (.cells #[.bool true, .bool true, .bool false, .bool false, .bool true, .bool false, .int .i64 8] 135)
  obtain ⟨W2, eW2⟩ : ∃ W2, W2 = w1.alloc (.cells #[.bool true, .bool true, .bool false, .bool false, .bool true, .bool false, .int .i64 8] 135) := ⟨_, rfl⟩
  rw [← eW2] at u hb2 ⊢
  replace q0 := cell_below hb2 q0
  replace q1 := cell_below hb2 q1
  replace q2 := cell_below hb2 q2
  replace q3 := cell_below hb2 q3
  replace q4 := cell_below hb2 q4
  replace q5 := cell_below hb2 q5
  have u0 : W2.cell? ⟨w1.heap.size, 0, none⟩ = some (.bool true) := u.cell (k := 0) rfl
  have u1 : W2.cell? ⟨w1.heap.size, 1, none⟩ = some (.bool true) := u.cell (k := 1) rfl
  have u2 : W2.cell? ⟨w1.heap.size, 2, none⟩ = some (.bool false) := u.cell (k := 2) rfl
  have u3 : W2.cell? ⟨w1.heap.size, 3, none⟩ = some (.bool false) := u.cell (k := 3) rfl
  have u4 : W2.cell? ⟨w1.heap.size, 4, none⟩ = some (.bool true) := u.cell (k := 4) rfl
  have u5 : W2.cell? ⟨w1.heap.size, 5, none⟩ = some (.bool false) := u.cell (k := 5) rfl
  have HB2 := Lib.hid (below_trans HB1.out hb2)
  clear u hb2 eW2
  obtain ⟨bu, ebu⟩ : ∃ b, b = w1.heap.size := ⟨_, rfl⟩
  rw [← ebu] at u0 u1 u2 u3 u4 u5 ⊢
  clear ebu
  go_wp2_with (first
    | (go_at_call 128; refine (operand_ok _ _ _ _ (by first | exact .inr ⟨rfl, rfl⟩ | exact .inl ⟨rfl, by omega⟩)).mono ?_; rintro e w' ⟨rfl, rfl⟩)
    | (go_at_call 129; refine (outside_ok _ _ _ _ _ (by first | exact .inl rfl | exact .inr (by decide))).mono ?_; rintro e w' ⟨rfl, rfl⟩))
  go_ret
  exact ⟨rfl, HB2.out⟩
theorem nodeError_any (n : Nd) (at_ : Nat) (w : World) (h : n.ok at_) : Calls Try.prog 92 #[.agg n.V.toArray, .int .i64 at_] w fun e w' => e = .returned (.int .i64 0) ∧ Below w.heap.size w w' := by
  cases n with
  | T => exact nodeError_T at_ w
  | F => exact nodeError_F at_ w
  | N x => exact nodeError_N x at_ w h
  | C x y => exact nodeError_C x y at_ w h.1 h.2
end Go.Proofs.Ytahaimecchdfeaa

/-
  Walk: lists of nodes that are right.
-/
namespace Go.Proofs.Ytahaimecchdfeaa
open Go.RowKit

set_option maxHeartbeats 4000000 in
theorem foCheck_any (v : Value) (l : List Nd) (base : Nat) (w : World) (h : NdO w base v l) (hok : NdsOk l) (h0 : 0 < l.length) (h2 : l.length ≤ 200) :
    Calls Try.prog 74 #[v] w fun e w' => e = .returned (.int .i64 0) ∧ Below w.heap.size w w' := by
  obtain ⟨A, c, rfl⟩ := h.shape
  have HO := Lib.hid h
  have HK := Lib.hid hok
  obtain ⟨n, en⟩ : ∃ n, n = l.length := ⟨_, rfl⟩
  have HN := Lib.hid en
  rw [← en] at h0 h2 ⊢
  have t1 : decide ((n : Int) = 0) = false := decide_eq_false (by omega)
  have t1b : decide (n = 0) = false := decide_eq_false (by omega)
  have t1c : n ≠ 0 := by omega
  have t1d : ((n : Int) == 0) = false := beq_eq_false_iff_ne.2 (by omega)
  have t2 : decide ((n : Int) > 200) = false := decide_eq_false (by omega)
  have t2b : decide (200 < n) = false := decide_eq_false (by omega)
  have t2c : ¬ 200 < n := by omega
  clear h hok en
  go_enter Try.func74, Try.ntmps74
  go_upto_region 5 with (fail)
  go_wp2_with fail
  go_loopw [14] (fun iv wr => ∃ i : Nat, i ≤ n ∧ iv = .int .i64 i ∧ Below w.heap.size w wr) (fun iv _ => n - (intOf iv).toNat)
  case atStart => exact ⟨0, Nat.zero_le _, rfl, Below.refl _ _⟩
  case round =>
    obtain ⟨i, hi, rfl, hb⟩ := hrel
    have HB := Lib.hid hb
    by_cases hlt : i < n
    · have hin : (i : Int) < (n : Int) := by omega
      obtain ⟨nd, hnd⟩ : ∃ nd, l[i]? = some nd := ⟨_, List.getElem?_eq_getElem (by rw [← HN.out]; exact hlt)⟩
      obtain ⟨b, cap, ev, hc⟩ := (HO.out.below hb).at hnd
      injection ev with eA en ec
      subst eA ec
      obtain ⟨c0, c1, c2, c3, c4, c5⟩ := hc
      have HE := Lib.hid (HK.out i nd hnd)
      have HNE := Lib.hid (fun X => nodeError_any nd i X (HK.out i nd hnd))
      clear hb hnd HE en
      go_wp2_with (go_at_call 92; refine (HNE.out _).mono ?_; rintro e w1 ⟨rfl, hb1⟩; have HB1 := Lib.hid (below_trans (below_trans HB.out (below_alloc _ _)) hb1); clear hb1)
      go_roundw
      case rel => exact ⟨i + 1, by omega, by go_num, HB1.out⟩
      case measure => simp [intOf]; omega
    · obtain rfl : i = n := by omega
      have hin : ¬ (i : Int) < (i : Int) := by omega
      clear hb
      go_wp2_with fail
      go_ret
      exact ⟨rfl, HB.out⟩
end Go.Proofs.Ytahaimecchdfeaa

/-
  Walk: the closure of compact.
-/
namespace Go.Proofs.Ytahaimecchdfeaa
open Go.RowKit

/-- What finish does at a number. -/
def FinOk (w0 : World) (bO bF bN bD bS mN mD : Nat) (l : List Nd) (fv : Value) (m i : Nat) : Prop :=
  ∀ (W : World) (ov : Value), CpS w0 W bO bF bN bD bS mN mD l fv m ov →
    Calls Try.prog 130 #[.int .i64 i, .pointer (some ⟨bD, 0, none⟩), .pointer (some ⟨bF, 0, none⟩), .pointer (some ⟨bS, 0, none⟩), .pointer (some ⟨bN, 0, none⟩), .pointer (some ⟨bO, 0, none⟩)] W
      fun e W' => e = .returned (.int .i64 i) ∧ ∃ ov', CpS w0 W' bO bF bN bD bS mN mD l fv (i + 1) ov' ∧ CpR bO W W' ov ov'
set_option maxHeartbeats 8000000 in
set_option maxRecDepth 100000 in
theorem fin_leaf (w0 : World) (bO bF bN bD bS mN mD : Nat) (l : List Nd) (fv : Value) (i : Nat) (nd : Nd) (hl : NdsOk l) (hu : NdU l) (h2 : l.length ≤ 200) (h : l[i]? = some nd) (hx : nd.ux = false) (hy : nd.uy = false) : FinOk w0 bO bF bN bD bS mN mD l fv i i := by
  intro W ov hS
  have hil := (List.getElem?_eq_some_iff.1 h).1
  have hrun1 := hS.donM.look_ok (k := i) (by omega)
  rw [if_neg (by omega)] at hrun1
  simp only [Option.getD_none, Option.isSome_none] at hrun1
  have hUs : ∀ X, Calls Try.prog 91 #[.int .i64 nd.op] X fun e w' => e = .returned (.tuple #[.agg #[.bool false, .bool false, .bool nd.uf, .bool false, .bool nd.ug, .bool false, .int .i64 nd.fr], .bool true]) ∧ Below X.heap.size X w' := fun X => by
    have := uses_any nd X
    rw [hx, hy] at this
    exact this
  have HND := Lib.hid h
  obtain ⟨b, cap, rfl, hc⟩ := (hS.fl.below hS.low).at h
  obtain ⟨c0, c1, c2, c3, c4, c5⟩ := hc
  have d0 := hS.don.cell (k := 0) rfl
  have f0 := hS.f.cell (k := 0) rfl
  have HS := Lib.hid hS
  have HUS := Lib.hid hUs
  have HSM := Lib.hid (Nd.ok_small (hl i nd h) (show i ≤ 65536 by omega))
  have HFR := Lib.hid (hu.fresh h)
  clear hS hUs hl hu h hx hy
  go_enter Try.func130, Try.ntmps130
  go_upto_region 5 with (fail)
  have hXn : Blk (W.alloc (.cells #[.int .i64 nd.op, .int .i64 0, .int .i64 0, .int .i64 nd.g, .int .i64 nd.x, .int .i64 nd.y] 108)) W.heap.size 108 #[.int .i64 nd.op, .int .i64 0, .int .i64 0, .int .i64 nd.g, .int .i64 nd.x, .int .i64 nd.y] := Blk.new W _ _
  have hba := below_alloc W (.cells #[.int .i64 nd.op, .int .i64 0, .int .i64 0, .int .i64 nd.g, .int .i64 nd.x, .int .i64 nd.y] 108)
  have hXO : ov.ownBlock ≠ some W.heap.size := fun e => by have := own_lt HS.out.own e; omega
  obtain ⟨W1, eW1⟩ : ∃ W1, W1 = W.alloc (.cells #[.int .i64 nd.op, .int .i64 0, .int .i64 0, .int .i64 nd.g, .int .i64 nd.x, .int .i64 nd.y] 108) := ⟨_, rfl⟩
  rw [← eW1] at hXn hba ⊢
  obtain ⟨xb, exb⟩ : ∃ b, b = W.heap.size := ⟨_, rfl⟩
  rw [← exb] at hXn hXO ⊢
  have x0 := hXn.cell (k := 0) rfl
  have HS1 := Lib.hid (HS.out.below hba)
  have HR1 := Lib.hid (CpR.below (bO := bO) (o := ov) hba)
  have HX1 := Lib.hid hXn
  have HXO := Lib.hid hXO
  clear hXn hba hXO eW1 exb c0 c1 c2 c3 c4 c5 d0 f0 hrun1 HS
  go_upto_region 6 with (go_at_call 91; refine (HUS.out _).mono ?_; rintro e w1 ⟨rfl, hb1⟩; have HS2 := Lib.hid (HS1.out.below hb1); have HR2 := Lib.hid (HR1.out.trans (CpR.below hb1)); have HX2 := Lib.hid (HX1.out.below hb1); clear hb1)
  have hu0 := Blk.new w1 #[.bool false, .bool false, .bool nd.uf, .bool false, .bool nd.ug, .bool false, .int .i64 nd.fr] 135
  have hba := below_alloc w1 (.cells #[.bool false, .bool false, .bool nd.uf, .bool false, .bool nd.ug, .bool false, .int .i64 nd.fr] 135)
  obtain ⟨V, eV⟩ : ∃ W1, W1 = w1.alloc (.cells #[.bool false, .bool false, .bool nd.uf, .bool false, .bool nd.ug, .bool false, .int .i64 nd.fr] 135) := ⟨_, rfl⟩
  rw [← eV] at hu0 hba ⊢
  have u0 : V.cell? ⟨w1.heap.size, 0, none⟩ = some (.bool false) := hu0.cell (k := 0) rfl
  have u1 : V.cell? ⟨w1.heap.size, 1, none⟩ = some (.bool false) := hu0.cell (k := 1) rfl
  obtain ⟨ub, eub⟩ : ∃ b, b = w1.heap.size := ⟨_, rfl⟩
  have hUO : ov.ownBlock ≠ some ub := fun e => by have := own_lt HS2.out.own e; omega
  rw [← eub] at u0 u1 hu0 ⊢
  have HS := Lib.hid (HS2.out.below hba)
  have HR := Lib.hid (HR2.out.trans (CpR.below hba))
  have HX := Lib.hid (HX2.out.below hba)
  have HU := Lib.hid hu0
  have HUO := Lib.hid hUO
  clear x0 HS1 HR1 HX1 HUS HS2 HR2 HX2 hu0 hba eV eub hUO
  go_upto_region 10 with (fail)
  clear u0 u1
  have hS := HS.out
  have hrun2 : (Instr.lookup 161 (.map (some mN)) (.agg #[.int .i64 nd.op, .int .i64 0, .int .i64 0, .int .i64 nd.g, .int .i64 nd.x, .int .i64 nd.y]) true).run Try.prog V = .ok (.tuple #[.int .i64 0, .bool false]) V := hS.numM.look_ok HSM.out HFR.out
  obtain ⟨A, c, eov⟩ := hS.own.shape
  rw [List.length_take, Nat.min_eq_left (by omega)] at eov
  have n0 := hS.num.cell (k := 0) rfl
  have o0 : V.cell? ⟨bO, 0, none⟩ = some (.slice A i c) := (hS.out.cell (k := 0) rfl).trans (congrArg some eov)
  have y0 := HX.out.cell (k := 0) rfl
  have y1 := HX.out.cell (k := 1) rfl
  have y2 := HX.out.cell (k := 2) rfl
  have y3 := HX.out.cell (k := 3) rfl
  have y4 := HX.out.cell (k := 4) rfl
  have y5 := HX.out.cell (k := 5) rfl
  have HW := Lib.hid (show V.ownsRow w0.heap.size 108 6 (.slice A i c) i (ndL (l.take i)) by
    have := hS.own
    rw [eov] at this
    unfold NdO at this
    rw [List.length_take, Nat.min_eq_left (by omega)] at this
    exact this)
  have HEO := Lib.hid eov
  have hsz := hS.low.size
  have HOB := Lib.hid (fun w3 (hg : (V.alloc (.cells #[.int .i64 nd.op, .int .i64 0, .int .i64 0, .int .i64 nd.g, .int .i64 nd.x, .int .i64 nd.y] 108)).grownBy w3 (Value.slice A i c).ownBlock) => ((hS.out.alloc _).kept hg (by rw [← eov]; exact hS.out.ne_row' hS.own (by decide)) : Blk w3 bO 56 #[ov]))
  clear hS eov
  go_upto_region 14 with (at_builtin; obtain ⟨i0, hi, hz0, hz1, hz2⟩ := info_parts Try.infoNode; refine wpList_append_own_at _ rfl _ _ 56 rfl w0.heap.size 108 i0 _ 6 48 Try.underlying56 hi hz0 hz1 hz2 rfl (by decide) _ _ _ rfl (own_alloc' HW.out _) ⟨V.heap.size, 0, none⟩ 1 1 [.int .i64 nd.op, .int .i64 0, .int .i64 0, .int .i64 nd.g, .int .i64 nd.x, .int .i64 nd.y] rfl rfl (World.news_of_block (cs := #[.int .i64 nd.op, .int .i64 0, .int .i64 0, .int .i64 nd.g, .int .i64 nd.x, .int .i64 nd.y]) (t := 108) (fr := (0, 0)) (heap_alloc_new V _)) (by simp [Value.oneCell']) (by unfold maxLen; omega) (by omega) (by simp; omega) ?_; intro v' w3 hown' hgrow _ hloc; obtain ⟨A2, c2, rfl, -⟩ := own_form' hown'; have hob := HOB.out w3 hgrow; have ob0 := hob.cell (k := 0) rfl; have obf := hob.frozen (k := 0); have HOW3 := Lib.hid hown'; have HG3 := Lib.hid hgrow; have HL3 := Lib.hid hloc; clear hob hown' hgrow hloc hi hz0 hz1 hz2)
  have hg3 := HG3.out
  rw [← HEO.out] at hg3
  have hl3 := HL3.out
  rw [← HEO.out] at hl3
  obtain ⟨W6, W7, hr6, hr7, hn5, hx5, hd6, hS7, hR7⟩ := HS.out.tail HND.out HSM.out (by omega) HX.out HXO.out HOW3.out hg3 hl3
  generalize w3.setCell ⟨bO, 0, none⟩ (.slice A2 (i + 1) c2) = W5 at hr6 hn5 hx5 ⊢
  have hx5 : Blk W5 xb 108 #[.int .i64 nd.op, .int .i64 0, .int .i64 0, .int .i64 nd.g, .int .i64 nd.x, .int .i64 nd.y] := hx5
  have z0 := hn5.cell (k := 0) rfl
  have z1 := hd6.cell (k := 0) rfl
  have y0 := hx5.cell (k := 0) rfl
  have y1 := hx5.cell (k := 1) rfl
  have y2 := hx5.cell (k := 2) rfl
  have y3 := hx5.cell (k := 3) rfl
  have y4 := hx5.cell (k := 4) rfl
  have y5 := hx5.cell (k := 5) rfl
  have HS7 := Lib.hid hS7
  have HR7 := Lib.hid (HR.out.trans hR7)
  have hr6 : (Instr.mapUpdate 161 (.map (some mN)) (.agg #[.int .i64 nd.op, .int .i64 0, .int .i64 0, .int .i64 nd.g, .int .i64 nd.x, .int .i64 nd.y]) (.int .i64 i)).run Try.prog W5 = .ok () W6 := hr6
  clear hg3 hl3 hn5 hx5 hd6 hS7 hR7 HG3 HL3 HOW3 HOB HW HEO o0 n0 hrun2
  go_wp2_with fail
  go_ret
  exact ⟨rfl, _, HS7.out, HR7.out⟩
set_option maxHeartbeats 8000000 in
set_option maxRecDepth 100000 in
theorem fin_one (w0 : World) (bO bF bN bD bS mN mD : Nat) (l : List Nd) (fv : Value) (m i : Nat) (nd : Nd) (hl : NdsOk l) (hu : NdU l) (h2 : l.length ≤ 200) (h : l[i]? = some nd) (hx : nd.ux = true) (hy : nd.uy = false) (hf : FinOk w0 bO bF bN bD bS mN mD l fv m nd.x) (hmx : m ≤ nd.x) (hi : nd.x + 1 = i) : FinOk w0 bO bF bN bD bS mN mD l fv m i := by
  intro W ov hS
  have hil := (List.getElem?_eq_some_iff.1 h).1
  have hrun1 := hS.donM.look_ok (k := i) (by omega)
  rw [if_neg (by omega)] at hrun1
  simp only [Option.getD_none, Option.isSome_none] at hrun1
  have hUs : ∀ X, Calls Try.prog 91 #[.int .i64 nd.op] X fun e w' => e = .returned (.tuple #[.agg #[.bool true, .bool false, .bool nd.uf, .bool false, .bool nd.ug, .bool false, .int .i64 nd.fr], .bool true]) ∧ Below X.heap.size X w' := fun X => by
    have := uses_any nd X
    rw [hx, hy] at this
    exact this
  have HND := Lib.hid h
  obtain ⟨b, cap, rfl, hc⟩ := (hS.fl.below hS.low).at h
  obtain ⟨c0, c1, c2, c3, c4, c5⟩ := hc
  have d0 := hS.don.cell (k := 0) rfl
  have f0 := hS.f.cell (k := 0) rfl
  have HS := Lib.hid hS
  have HUS := Lib.hid hUs
  have HSM := Lib.hid (Nd.ok_small (hl i nd h) (show i ≤ 65536 by omega))
  have HFR := Lib.hid (hu.fresh h)
  have HF := Lib.hid hf
  have HI := Lib.hid hi
  clear hf
  clear hS hUs hl hu h hx hy
  go_enter Try.func130, Try.ntmps130
  go_upto_region 5 with (fail)
  have hXn : Blk (W.alloc (.cells #[.int .i64 nd.op, .int .i64 0, .int .i64 0, .int .i64 nd.g, .int .i64 nd.x, .int .i64 nd.y] 108)) W.heap.size 108 #[.int .i64 nd.op, .int .i64 0, .int .i64 0, .int .i64 nd.g, .int .i64 nd.x, .int .i64 nd.y] := Blk.new W _ _
  have hba := below_alloc W (.cells #[.int .i64 nd.op, .int .i64 0, .int .i64 0, .int .i64 nd.g, .int .i64 nd.x, .int .i64 nd.y] 108)
  have hXO : ov.ownBlock ≠ some W.heap.size := fun e => by have := own_lt HS.out.own e; omega
  obtain ⟨W1, eW1⟩ : ∃ W1, W1 = W.alloc (.cells #[.int .i64 nd.op, .int .i64 0, .int .i64 0, .int .i64 nd.g, .int .i64 nd.x, .int .i64 nd.y] 108) := ⟨_, rfl⟩
  rw [← eW1] at hXn hba ⊢
  obtain ⟨xb, exb⟩ : ∃ b, b = W.heap.size := ⟨_, rfl⟩
  rw [← exb] at hXn hXO ⊢
  have x0 := hXn.cell (k := 0) rfl
  have HS1 := Lib.hid (HS.out.below hba)
  have HR1 := Lib.hid (CpR.below (bO := bO) (o := ov) hba)
  have HX1 := Lib.hid hXn
  have HXO := Lib.hid hXO
  clear hXn hba hXO eW1 exb c0 c1 c2 c3 c4 c5 d0 f0 hrun1 HS
  go_upto_region 6 with (go_at_call 91; refine (HUS.out _).mono ?_; rintro e w1 ⟨rfl, hb1⟩; have HS2 := Lib.hid (HS1.out.below hb1); have HR2 := Lib.hid (HR1.out.trans (CpR.below hb1)); have HX2 := Lib.hid (HX1.out.below hb1); clear hb1)
  have hu0 := Blk.new w1 #[.bool true, .bool false, .bool nd.uf, .bool false, .bool nd.ug, .bool false, .int .i64 nd.fr] 135
  have hba := below_alloc w1 (.cells #[.bool true, .bool false, .bool nd.uf, .bool false, .bool nd.ug, .bool false, .int .i64 nd.fr] 135)
  obtain ⟨V1, eV⟩ : ∃ W1, W1 = w1.alloc (.cells #[.bool true, .bool false, .bool nd.uf, .bool false, .bool nd.ug, .bool false, .int .i64 nd.fr] 135) := ⟨_, rfl⟩
  rw [← eV] at hu0 hba ⊢
  have u0 : V1.cell? ⟨w1.heap.size, 0, none⟩ = some (.bool true) := hu0.cell (k := 0) rfl
  have u1 : V1.cell? ⟨w1.heap.size, 1, none⟩ = some (.bool false) := hu0.cell (k := 1) rfl
  obtain ⟨ub, eub⟩ : ∃ b, b = w1.heap.size := ⟨_, rfl⟩
  have hUO : ov.ownBlock ≠ some ub := fun e => by have := own_lt HS2.out.own e; omega
  rw [← eub] at u0 u1 hu0 ⊢
  have HS := Lib.hid (HS2.out.below hba)
  have HR := Lib.hid (HR2.out.trans (CpR.below hba))
  have HX := Lib.hid (HX2.out.below hba)
  have HU := Lib.hid hu0
  have HUO := Lib.hid hUO
  clear x0 HS1 HR1 HX1 HUS HS2 HR2 HX2 hu0 hba eV eub hUO
  go_upto_region 7 with (fail)
  clear u0 u1
  have s0 := HS.out.self.cell (k := 0) rfl
  have xk := HX.out.cell (k := 4) rfl
  go_upto_region 8 with (go_at_call 130; refine (HF.out _ _ HS.out).mono ?_; rintro e V ⟨rfl, ov2, hs, hr⟩; have hx2 := hr.blk HX.out (HX.out.ne HS.out.out (by decide)) HXO.out; have hu2 := hr.blk HU.out (HU.out.ne HS.out.out (by decide)) HUO.out; have xk2 := hx2.cell (k := 4) rfl; have xf := hx2.frozen (k := 4); have HS2 := Lib.hid hs; have HR2 := Lib.hid hr; have HX2 := Lib.hid hx2; have HU2 := Lib.hid hu2; clear hs hr hx2 hu2)
  rw [setCell_self (k := 4) (v := .int .i64 nd.x) HX2.out rfl]
  clear s0 xk xk2 xf
  have hXO2 : ov2.ownBlock ≠ some xb := fun e => by
    rcases HR2.out.loc _ e with h3 | h3
    · exact HXO.out h3
    · have := HX.out.lt
      omega
  have hUO2 : ov2.ownBlock ≠ some ub := fun e => by
    rcases HR2.out.loc _ e with h3 | h3
    · exact HUO.out h3
    · have := HU.out.lt
      omega
  have HR3 := Lib.hid (HR.out.trans HR2.out)
  clear HS HX HR HR2 HXO HUO HU
  have HS := Lib.hid HS2.out
  have HX := Lib.hid HX2.out
  have HR := Lib.hid HR3.out
  have HU := Lib.hid HU2.out
  have HXO := Lib.hid hXO2
  have HUO := Lib.hid hUO2
  clear HS2 HX2 HR3 HU2 hXO2 hUO2 HF
  have u1 : V.cell? ⟨ub, 1, none⟩ = some (.bool false) := HU.out.cell (k := 1) rfl
  go_upto_region 10 with (fail)
  clear u1
  have HS0 := Lib.hid HS.out
  rw [HI.out] at HS0
  clear HS
  have HS := Lib.hid HS0.out
  have hS := HS.out
  have hrun2 : (Instr.lookup 161 (.map (some mN)) (.agg #[.int .i64 nd.op, .int .i64 0, .int .i64 0, .int .i64 nd.g, .int .i64 nd.x, .int .i64 nd.y]) true).run Try.prog V = .ok (.tuple #[.int .i64 0, .bool false]) V := hS.numM.look_ok HSM.out HFR.out
  obtain ⟨A, c, eov⟩ := hS.own.shape
  rw [List.length_take, Nat.min_eq_left (by omega)] at eov
  have n0 := hS.num.cell (k := 0) rfl
  have o0 : V.cell? ⟨bO, 0, none⟩ = some (.slice A i c) := (hS.out.cell (k := 0) rfl).trans (congrArg some eov)
  have y0 := HX.out.cell (k := 0) rfl
  have y1 := HX.out.cell (k := 1) rfl
  have y2 := HX.out.cell (k := 2) rfl
  have y3 := HX.out.cell (k := 3) rfl
  have y4 := HX.out.cell (k := 4) rfl
  have y5 := HX.out.cell (k := 5) rfl
  have HW := Lib.hid (show V.ownsRow w0.heap.size 108 6 (.slice A i c) i (ndL (l.take i)) by
    have := hS.own
    rw [eov] at this
    unfold NdO at this
    rw [List.length_take, Nat.min_eq_left (by omega)] at this
    exact this)
  have HEO := Lib.hid eov
  have hsz := hS.low.size
  have HOB := Lib.hid (fun w3 (hg : (V.alloc (.cells #[.int .i64 nd.op, .int .i64 0, .int .i64 0, .int .i64 nd.g, .int .i64 nd.x, .int .i64 nd.y] 108)).grownBy w3 (Value.slice A i c).ownBlock) => ((hS.out.alloc _).kept hg (by rw [← eov]; exact hS.out.ne_row' hS.own (by decide)) : Blk w3 bO 56 #[ov2]))
  clear hS eov
  go_upto_region 14 with (at_builtin; obtain ⟨i0, hi, hz0, hz1, hz2⟩ := info_parts Try.infoNode; refine wpList_append_own_at _ rfl _ _ 56 rfl w0.heap.size 108 i0 _ 6 48 Try.underlying56 hi hz0 hz1 hz2 rfl (by decide) _ _ _ rfl (own_alloc' HW.out _) ⟨V.heap.size, 0, none⟩ 1 1 [.int .i64 nd.op, .int .i64 0, .int .i64 0, .int .i64 nd.g, .int .i64 nd.x, .int .i64 nd.y] rfl rfl (World.news_of_block (cs := #[.int .i64 nd.op, .int .i64 0, .int .i64 0, .int .i64 nd.g, .int .i64 nd.x, .int .i64 nd.y]) (t := 108) (fr := (0, 0)) (heap_alloc_new V _)) (by simp [Value.oneCell']) (by unfold maxLen; omega) (by omega) (by simp; omega) ?_; intro v' w3 hown' hgrow _ hloc; obtain ⟨A2, c2, rfl, -⟩ := own_form' hown'; have hob := HOB.out w3 hgrow; have ob0 := hob.cell (k := 0) rfl; have obf := hob.frozen (k := 0); have HOW3 := Lib.hid hown'; have HG3 := Lib.hid hgrow; have HL3 := Lib.hid hloc; clear hob hown' hgrow hloc hi hz0 hz1 hz2)
  have hg3 := HG3.out
  rw [← HEO.out] at hg3
  have hl3 := HL3.out
  rw [← HEO.out] at hl3
  obtain ⟨W6, W7, hr6, hr7, hn5, hx5, hd6, hS7, hR7⟩ := HS.out.tail HND.out HSM.out (by omega) HX.out HXO.out HOW3.out hg3 hl3
  generalize w3.setCell ⟨bO, 0, none⟩ (.slice A2 (i + 1) c2) = W5 at hr6 hn5 hx5 ⊢
  have hx5 : Blk W5 xb 108 #[.int .i64 nd.op, .int .i64 0, .int .i64 0, .int .i64 nd.g, .int .i64 nd.x, .int .i64 nd.y] := hx5
  have z0 := hn5.cell (k := 0) rfl
  have z1 := hd6.cell (k := 0) rfl
  have y0 := hx5.cell (k := 0) rfl
  have y1 := hx5.cell (k := 1) rfl
  have y2 := hx5.cell (k := 2) rfl
  have y3 := hx5.cell (k := 3) rfl
  have y4 := hx5.cell (k := 4) rfl
  have y5 := hx5.cell (k := 5) rfl
  have HS7 := Lib.hid hS7
  have HR7 := Lib.hid (HR.out.trans hR7)
  have hr6 : (Instr.mapUpdate 161 (.map (some mN)) (.agg #[.int .i64 nd.op, .int .i64 0, .int .i64 0, .int .i64 nd.g, .int .i64 nd.x, .int .i64 nd.y]) (.int .i64 i)).run Try.prog W5 = .ok () W6 := hr6
  clear hg3 hl3 hn5 hx5 hd6 hS7 hR7 HG3 HL3 HOW3 HOB HW HEO o0 n0 hrun2
  go_wp2_with fail
  go_ret
  exact ⟨rfl, _, HS7.out, HR7.out⟩
set_option maxHeartbeats 8000000 in
set_option maxRecDepth 100000 in
theorem fin_two (w0 : World) (bO bF bN bD bS mN mD : Nat) (l : List Nd) (fv : Value) (m i : Nat) (nd : Nd) (hl : NdsOk l) (hu : NdU l) (h2 : l.length ≤ 200) (h : l[i]? = some nd) (hx : nd.ux = true) (hy : nd.uy = true) (hf : FinOk w0 bO bF bN bD bS mN mD l fv m nd.x) (hg : FinOk w0 bO bF bN bD bS mN mD l fv (nd.x + 1) nd.y) (hmx : m ≤ nd.y) (hi : nd.y + 1 = i) : FinOk w0 bO bF bN bD bS mN mD l fv m i := by
  intro W ov hS
  have hil := (List.getElem?_eq_some_iff.1 h).1
  have hrun1 := hS.donM.look_ok (k := i) (by omega)
  rw [if_neg (by omega)] at hrun1
  simp only [Option.getD_none, Option.isSome_none] at hrun1
  have hUs : ∀ X, Calls Try.prog 91 #[.int .i64 nd.op] X fun e w' => e = .returned (.tuple #[.agg #[.bool true, .bool true, .bool nd.uf, .bool false, .bool nd.ug, .bool false, .int .i64 nd.fr], .bool true]) ∧ Below X.heap.size X w' := fun X => by
    have := uses_any nd X
    rw [hx, hy] at this
    exact this
  have HND := Lib.hid h
  obtain ⟨b, cap, rfl, hc⟩ := (hS.fl.below hS.low).at h
  obtain ⟨c0, c1, c2, c3, c4, c5⟩ := hc
  have d0 := hS.don.cell (k := 0) rfl
  have f0 := hS.f.cell (k := 0) rfl
  have HS := Lib.hid hS
  have HUS := Lib.hid hUs
  have HSM := Lib.hid (Nd.ok_small (hl i nd h) (show i ≤ 65536 by omega))
  have HFR := Lib.hid (hu.fresh h)
  have HF := Lib.hid hf
  have HG := Lib.hid hg
  have HI := Lib.hid hi
  clear hf hg
  clear hS hUs hl hu h hx hy
  go_enter Try.func130, Try.ntmps130
  go_upto_region 5 with (fail)
  have hXn : Blk (W.alloc (.cells #[.int .i64 nd.op, .int .i64 0, .int .i64 0, .int .i64 nd.g, .int .i64 nd.x, .int .i64 nd.y] 108)) W.heap.size 108 #[.int .i64 nd.op, .int .i64 0, .int .i64 0, .int .i64 nd.g, .int .i64 nd.x, .int .i64 nd.y] := Blk.new W _ _
  have hba := below_alloc W (.cells #[.int .i64 nd.op, .int .i64 0, .int .i64 0, .int .i64 nd.g, .int .i64 nd.x, .int .i64 nd.y] 108)
  have hXO : ov.ownBlock ≠ some W.heap.size := fun e => by have := own_lt HS.out.own e; omega
  obtain ⟨W1, eW1⟩ : ∃ W1, W1 = W.alloc (.cells #[.int .i64 nd.op, .int .i64 0, .int .i64 0, .int .i64 nd.g, .int .i64 nd.x, .int .i64 nd.y] 108) := ⟨_, rfl⟩
  rw [← eW1] at hXn hba ⊢
  obtain ⟨xb, exb⟩ : ∃ b, b = W.heap.size := ⟨_, rfl⟩
  rw [← exb] at hXn hXO ⊢
  have x0 := hXn.cell (k := 0) rfl
  have HS1 := Lib.hid (HS.out.below hba)
  have HR1 := Lib.hid (CpR.below (bO := bO) (o := ov) hba)
  have HX1 := Lib.hid hXn
  have HXO := Lib.hid hXO
  clear hXn hba hXO eW1 exb c0 c1 c2 c3 c4 c5 d0 f0 hrun1 HS
  go_upto_region 6 with (go_at_call 91; refine (HUS.out _).mono ?_; rintro e w1 ⟨rfl, hb1⟩; have HS2 := Lib.hid (HS1.out.below hb1); have HR2 := Lib.hid (HR1.out.trans (CpR.below hb1)); have HX2 := Lib.hid (HX1.out.below hb1); clear hb1)
  have hu0 := Blk.new w1 #[.bool true, .bool true, .bool nd.uf, .bool false, .bool nd.ug, .bool false, .int .i64 nd.fr] 135
  have hba := below_alloc w1 (.cells #[.bool true, .bool true, .bool nd.uf, .bool false, .bool nd.ug, .bool false, .int .i64 nd.fr] 135)
  obtain ⟨V1, eV⟩ : ∃ W1, W1 = w1.alloc (.cells #[.bool true, .bool true, .bool nd.uf, .bool false, .bool nd.ug, .bool false, .int .i64 nd.fr] 135) := ⟨_, rfl⟩
  rw [← eV] at hu0 hba ⊢
  have u0 : V1.cell? ⟨w1.heap.size, 0, none⟩ = some (.bool true) := hu0.cell (k := 0) rfl
  have u1 : V1.cell? ⟨w1.heap.size, 1, none⟩ = some (.bool true) := hu0.cell (k := 1) rfl
  obtain ⟨ub, eub⟩ : ∃ b, b = w1.heap.size := ⟨_, rfl⟩
  have hUO : ov.ownBlock ≠ some ub := fun e => by have := own_lt HS2.out.own e; omega
  rw [← eub] at u0 u1 hu0 ⊢
  have HS := Lib.hid (HS2.out.below hba)
  have HR := Lib.hid (HR2.out.trans (CpR.below hba))
  have HX := Lib.hid (HX2.out.below hba)
  have HU := Lib.hid hu0
  have HUO := Lib.hid hUO
  clear x0 HS1 HR1 HX1 HUS HS2 HR2 HX2 hu0 hba eV eub hUO
  go_upto_region 7 with (fail)
  clear u0 u1
  have s0 := HS.out.self.cell (k := 0) rfl
  have xk := HX.out.cell (k := 4) rfl
  go_upto_region 8 with (go_at_call 130; refine (HF.out _ _ HS.out).mono ?_; rintro e V2 ⟨rfl, ov2, hs, hr⟩; have hx2 := hr.blk HX.out (HX.out.ne HS.out.out (by decide)) HXO.out; have hu2 := hr.blk HU.out (HU.out.ne HS.out.out (by decide)) HUO.out; have xk2 := hx2.cell (k := 4) rfl; have xf := hx2.frozen (k := 4); have HS2 := Lib.hid hs; have HR2 := Lib.hid hr; have HX2 := Lib.hid hx2; have HU2 := Lib.hid hu2; clear hs hr hx2 hu2)
  rw [setCell_self (k := 4) (v := .int .i64 nd.x) HX2.out rfl]
  clear s0 xk xk2 xf
  have hXO2 : ov2.ownBlock ≠ some xb := fun e => by
    rcases HR2.out.loc _ e with h3 | h3
    · exact HXO.out h3
    · have := HX.out.lt
      omega
  have hUO2 : ov2.ownBlock ≠ some ub := fun e => by
    rcases HR2.out.loc _ e with h3 | h3
    · exact HUO.out h3
    · have := HU.out.lt
      omega
  have HR3 := Lib.hid (HR.out.trans HR2.out)
  clear HS HX HR HR2 HXO HUO HU
  have HS := Lib.hid HS2.out
  have HX := Lib.hid HX2.out
  have HR := Lib.hid HR3.out
  have HU := Lib.hid HU2.out
  have HXO := Lib.hid hXO2
  have HUO := Lib.hid hUO2
  clear HS2 HX2 HR3 HU2 hXO2 hUO2 HF
  have u1 : V2.cell? ⟨ub, 1, none⟩ = some (.bool true) := HU.out.cell (k := 1) rfl
  go_upto_region 9 with (fail)
  clear u1
  have s0 := HS.out.self.cell (k := 0) rfl
  have xk := HX.out.cell (k := 5) rfl
  go_upto_region 10 with (go_at_call 130; refine (HG.out _ _ HS.out).mono ?_; rintro e V ⟨rfl, ov3, hs, hr⟩; have hx2 := hr.blk HX.out (HX.out.ne HS.out.out (by decide)) HXO.out; have hu2 := hr.blk HU.out (HU.out.ne HS.out.out (by decide)) HUO.out; have xk2 := hx2.cell (k := 5) rfl; have xf := hx2.frozen (k := 5); have HS2 := Lib.hid hs; have HR2 := Lib.hid hr; have HX2 := Lib.hid hx2; have HU2 := Lib.hid hu2; clear hs hr hx2 hu2)
  rw [setCell_self (k := 5) (v := .int .i64 nd.y) HX2.out rfl]
  clear s0 xk xk2 xf
  have hXO2 : ov3.ownBlock ≠ some xb := fun e => by
    rcases HR2.out.loc _ e with h3 | h3
    · exact HXO.out h3
    · have := HX.out.lt
      omega
  have hUO2 : ov3.ownBlock ≠ some ub := fun e => by
    rcases HR2.out.loc _ e with h3 | h3
    · exact HUO.out h3
    · have := HU.out.lt
      omega
  have HR3 := Lib.hid (HR.out.trans HR2.out)
  clear HS HX HR HR2 HXO HUO HU
  have HS := Lib.hid HS2.out
  have HX := Lib.hid HX2.out
  have HR := Lib.hid HR3.out
  have HU := Lib.hid HU2.out
  have HXO := Lib.hid hXO2
  have HUO := Lib.hid hUO2
  clear HS2 HX2 HR3 HU2 hXO2 hUO2 HG
  have HS0 := Lib.hid HS.out
  rw [HI.out] at HS0
  clear HS
  have HS := Lib.hid HS0.out
  have hS := HS.out
  have hrun2 : (Instr.lookup 161 (.map (some mN)) (.agg #[.int .i64 nd.op, .int .i64 0, .int .i64 0, .int .i64 nd.g, .int .i64 nd.x, .int .i64 nd.y]) true).run Try.prog V = .ok (.tuple #[.int .i64 0, .bool false]) V := hS.numM.look_ok HSM.out HFR.out
  obtain ⟨A, c, eov⟩ := hS.own.shape
  rw [List.length_take, Nat.min_eq_left (by omega)] at eov
  have n0 := hS.num.cell (k := 0) rfl
  have o0 : V.cell? ⟨bO, 0, none⟩ = some (.slice A i c) := (hS.out.cell (k := 0) rfl).trans (congrArg some eov)
  have y0 := HX.out.cell (k := 0) rfl
  have y1 := HX.out.cell (k := 1) rfl
  have y2 := HX.out.cell (k := 2) rfl
  have y3 := HX.out.cell (k := 3) rfl
  have y4 := HX.out.cell (k := 4) rfl
  have y5 := HX.out.cell (k := 5) rfl
  have HW := Lib.hid (show V.ownsRow w0.heap.size 108 6 (.slice A i c) i (ndL (l.take i)) by
    have := hS.own
    rw [eov] at this
    unfold NdO at this
    rw [List.length_take, Nat.min_eq_left (by omega)] at this
    exact this)
  have HEO := Lib.hid eov
  have hsz := hS.low.size
  have HOB := Lib.hid (fun w3 (hg : (V.alloc (.cells #[.int .i64 nd.op, .int .i64 0, .int .i64 0, .int .i64 nd.g, .int .i64 nd.x, .int .i64 nd.y] 108)).grownBy w3 (Value.slice A i c).ownBlock) => ((hS.out.alloc _).kept hg (by rw [← eov]; exact hS.out.ne_row' hS.own (by decide)) : Blk w3 bO 56 #[ov3]))
  clear hS eov
  go_upto_region 14 with (at_builtin; obtain ⟨i0, hi, hz0, hz1, hz2⟩ := info_parts Try.infoNode; refine wpList_append_own_at _ rfl _ _ 56 rfl w0.heap.size 108 i0 _ 6 48 Try.underlying56 hi hz0 hz1 hz2 rfl (by decide) _ _ _ rfl (own_alloc' HW.out _) ⟨V.heap.size, 0, none⟩ 1 1 [.int .i64 nd.op, .int .i64 0, .int .i64 0, .int .i64 nd.g, .int .i64 nd.x, .int .i64 nd.y] rfl rfl (World.news_of_block (cs := #[.int .i64 nd.op, .int .i64 0, .int .i64 0, .int .i64 nd.g, .int .i64 nd.x, .int .i64 nd.y]) (t := 108) (fr := (0, 0)) (heap_alloc_new V _)) (by simp [Value.oneCell']) (by unfold maxLen; omega) (by omega) (by simp; omega) ?_; intro v' w3 hown' hgrow _ hloc; obtain ⟨A2, c2, rfl, -⟩ := own_form' hown'; have hob := HOB.out w3 hgrow; have ob0 := hob.cell (k := 0) rfl; have obf := hob.frozen (k := 0); have HOW3 := Lib.hid hown'; have HG3 := Lib.hid hgrow; have HL3 := Lib.hid hloc; clear hob hown' hgrow hloc hi hz0 hz1 hz2)
  have hg3 := HG3.out
  rw [← HEO.out] at hg3
  have hl3 := HL3.out
  rw [← HEO.out] at hl3
  obtain ⟨W6, W7, hr6, hr7, hn5, hx5, hd6, hS7, hR7⟩ := HS.out.tail HND.out HSM.out (by omega) HX.out HXO.out HOW3.out hg3 hl3
  generalize w3.setCell ⟨bO, 0, none⟩ (.slice A2 (i + 1) c2) = W5 at hr6 hn5 hx5 ⊢
  have hx5 : Blk W5 xb 108 #[.int .i64 nd.op, .int .i64 0, .int .i64 0, .int .i64 nd.g, .int .i64 nd.x, .int .i64 nd.y] := hx5
  have z0 := hn5.cell (k := 0) rfl
  have z1 := hd6.cell (k := 0) rfl
  have y0 := hx5.cell (k := 0) rfl
  have y1 := hx5.cell (k := 1) rfl
  have y2 := hx5.cell (k := 2) rfl
  have y3 := hx5.cell (k := 3) rfl
  have y4 := hx5.cell (k := 4) rfl
  have y5 := hx5.cell (k := 5) rfl
  have HS7 := Lib.hid hS7
  have HR7 := Lib.hid (HR.out.trans hR7)
  have hr6 : (Instr.mapUpdate 161 (.map (some mN)) (.agg #[.int .i64 nd.op, .int .i64 0, .int .i64 0, .int .i64 nd.g, .int .i64 nd.x, .int .i64 nd.y]) (.int .i64 i)).run Try.prog W5 = .ok () W6 := hr6
  clear hg3 hl3 hn5 hx5 hd6 hS7 hR7 HG3 HL3 HOW3 HOB HW HEO o0 n0 hrun2
  go_wp2_with fail
  go_ret
  exact ⟨rfl, _, HS7.out, HR7.out⟩
theorem fin_any (w0 : World) (bO bF bN bD bS mN mD : Nat) (l : List Nd) (fv : Value) (hl : NdsOk l) (hu : NdU l) (h2 : l.length ≤ 200) {m i : Nat} (h : Fin3 l m i) : FinOk w0 bO bF bN bD bS mN mD l fv m i := by
  induction h with
  | leaf i nd h hx hy => exact fin_leaf w0 bO bF bN bD bS mN mD l fv i nd hl hu h2 h hx hy
  | one m i x h hf hi ih => exact fin_one w0 bO bF bN bD bS mN mD l fv m i (.N x) hl hu h2 h rfl rfl ih hf.le hi
  | two m i x y h hf hg hi ih1 ih2 => exact fin_two w0 bO bF bN bD bS mN mD l fv m i (.C x y) hl hu h2 h rfl rfl ih1 ih2 (by have := hf.le; have := hg.le; show m ≤ y; omega) hi
end Go.Proofs.Ytahaimecchdfeaa
