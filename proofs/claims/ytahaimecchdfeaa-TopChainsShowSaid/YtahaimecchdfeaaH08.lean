/-
  Texts of this claim, one after the other: what each proves is said at its head. No condition beyond those that its theorems name.
-/
import Derived.Test.YtahaimecchdfeaaProg
import Derived.Deep.DeepCutAuto
import Derived.Deep.RegionHeld3
import Derived.Test.YtahaimecchdfeaaH01
import Derived.Test.YtahaimecchdfeaaH02
import Derived.Test.YtahaimecchdfeaaH03

/-
  Walks: union; the fragments, agents and facts of a formula.
-/
namespace Go.Proofs.Ytahaimecchdfeaa
open Go.RowKit

/-- The cells of what a node uses. -/
def Nd.U (n : Nd) : Array Value := #[.bool n.ux, .bool n.uy, .bool n.uf, .bool false, .bool n.ug, .bool false, .int .i64 n.fr]
/-- The union of the masks. -/
def orN (M : Nd → Nat) : List Nd → Nat → Nat
  | [], c => c
  | n :: l, c => orN M l (c ||| M n)
theorem orN_snoc (M : Nd → Nat) : ∀ (l : List Nd) (n : Nd) (c : Nat), orN M (l ++ [n]) c = orN M l c ||| M n
  | [], _, _ => rfl
  | _ :: l, n, _ => orN_snoc M l n _
theorem orN_lt (M : Nd → Nat) (h : ∀ n, M n < 256) : ∀ (l : List Nd) (c : Nat), c < 256 → orN M l c < 256
  | [], _, ha => ha
  | n :: l, _, ha => orN_lt M h l _ (Nat.or_lt_two_pow (n := 8) ha (h n))
theorem fo_or_nat (a b : Nat) (ha : a < 256) (hb : b < 256) : bits .or .i64 (a : Int) (b : Int) = ((a ||| b : Nat) : Int) := by
  have hx : a ||| b < 2 ^ 8 := Nat.or_lt_two_pow (by omega) (by omega)
  have h2 : ∀ q : Nat, q < 256 → (BitVec.ofInt 64 (q : Int)).toNat = q := fun q hq => by rw [BitVec.ofInt_natCast, BitVec.toNat_ofNat]; exact Nat.mod_eq_of_lt (by omega)
  show IntKind.i64.wrap ((BitVec.ofInt 64 (a : Int) ||| BitVec.ofInt 64 (b : Int)).toNat : Int) = _
  rw [BitVec.toNat_or, h2 a ha, h2 b hb, IntKind.wrap_i64]
  omega
def facM (n : Nd) : Nat := if n.uf = true then 1 else 0
theorem fr_lt (n : Nd) : n.fr < 256 := by cases n <;> exact Nat.le_of_ble_eq_true rfl
theorem g_lt (n : Nd) : n.g < 256 := by cases n <;> exact Nat.le_of_ble_eq_true rfl
theorem facM_lt (n : Nd) : facM n < 256 := by unfold facM; split <;> decide
set_option maxHeartbeats 4000000 in
theorem frags1 (n : Nd) (w : World) : Calls Try.prog 99 #[.agg n.V.toArray, .agg n.U] w fun e w' => e = .returned (.int .i64 n.fr) ∧ Below w.heap.size w w' := by
  obtain ⟨W, eW⟩ : ∃ W, W = (w.alloc (.cells #[.int .i64 n.op, .int .i64 0, .int .i64 0, .int .i64 n.g, .int .i64 n.x, .int .i64 n.y] 108)).alloc (.cells #[.bool n.ux, .bool n.uy, .bool n.uf, .bool false, .bool n.ug, .bool false, .int .i64 n.fr] 135) := ⟨_, rfl⟩
  obtain ⟨h1, h2, hb, -⟩ := two_allocs w _ _ _ _ W eW
  have HB := Lib.hid hb
  have y6 := h2.cell (k := 6) rfl
  have HW := Lib.hid eW
  unfold Nd.U Nd.V
  clear h1 h2 hb eW
  go_enter Try.func99, Try.ntmps99
  go_upto_region 1 with (fail)
  rw [← HW.out]
  go_wp2_with fail
  go_ret
  exact ⟨rfl, HB.out⟩
set_option maxHeartbeats 4000000 in
theorem agents1 (n : Nd) (w : World) : Calls Try.prog 133 #[.agg n.V.toArray, .agg n.U] w fun e w' => e = .returned (.int .i64 n.g) ∧ Below w.heap.size w w' := by
  obtain ⟨W, eW⟩ : ∃ W, W = (w.alloc (.cells #[.int .i64 n.op, .int .i64 0, .int .i64 0, .int .i64 n.g, .int .i64 n.x, .int .i64 n.y] 108)).alloc (.cells #[.bool n.ux, .bool n.uy, .bool n.uf, .bool false, .bool n.ug, .bool false, .int .i64 n.fr] 135) := ⟨_, rfl⟩
  obtain ⟨h1, h2, hb, -⟩ := two_allocs w _ _ _ _ W eW
  have HB := Lib.hid hb
  have y3 := h2.cell (k := 3) rfl
  have HW := Lib.hid eW
  unfold Nd.U Nd.V
  clear h2 hb eW
  have x3 := h1.cell (k := 3) rfl
  clear h1
  go_enter Try.func133, Try.ntmps133
  go_upto_region 1 with (fail)
  rw [← HW.out]
  go_wp2_with fail
  go_ret
  exact ⟨rfl, HB.out⟩
set_option maxHeartbeats 4000000 in
theorem facts1 (n : Nd) (w : World) : Calls Try.prog 134 #[.agg n.V.toArray, .agg n.U] w fun e w' => e = .returned (.int .i64 (facM n)) ∧ Below w.heap.size w w' := by
  have HM := Lib.hid (show facM n = if n.uf = true then 1 else 0 from rfl)
  unfold Nd.U Nd.V
  rw [HM.out]
  generalize n.uf = u
  clear HM
  obtain ⟨W, eW⟩ : ∃ W, W = (w.alloc (.cells #[.int .i64 n.op, .int .i64 0, .int .i64 0, .int .i64 n.g, .int .i64 n.x, .int .i64 n.y] 108)).alloc (.cells #[.bool n.ux, .bool n.uy, .bool u, .bool false, .bool n.ug, .bool false, .int .i64 n.fr] 135) := ⟨_, rfl⟩
  obtain ⟨h1, h2, hb, -⟩ := two_allocs w _ _ _ _ W eW
  have HB := Lib.hid hb
  have x1 := h1.cell (k := 1) rfl
  have y2 := h2.cell (k := 2) rfl
  have HW := Lib.hid eW
  clear h1 h2 hb eW
  cases u with
  | true =>
    go_enter Try.func134, Try.ntmps134
    go_upto_region 1 with (fail)
    rw [← HW.out]
    go_wp2_with fail
    go_ret
    exact ⟨rfl, HB.out⟩
  | false =>
    go_enter Try.func134, Try.ntmps134
    go_upto_region 1 with (fail)
    rw [← HW.out]
    go_wp2_with fail
    go_ret
    exact ⟨rfl, HB.out⟩
set_option maxHeartbeats 4000000 in
set_option maxRecDepth 100000 in
theorem union_Frags (fv : Value) (l : List Nd) (w : World) (h : NdO w 0 fv l) (hc : Can l) :
    Calls Try.prog 98 #[fv, .func (.func 99) #[] #[]] w fun e w' => e = .returned (.int .i64 (orN Nd.fr l 0)) ∧ Below w.heap.size w w' := by
  have HCM := Lib.hid (Compact_any fv l w h hc)
  have HM := Lib.hid (fun n X => frags1 n X)
  have HLT := Lib.hid (fun n => fr_lt n)
  obtain ⟨A, c, rfl⟩ := h.shape
  have hlen := hc.len
  obtain ⟨n, en⟩ : ∃ n, n = l.length := ⟨_, rfl⟩
  rw [← en] at hlen HCM ⊢
  have HN := Lib.hid en
  clear h hc en
  go_enter Try.func98, Try.ntmps98
  go_upto_region 3 with (go_at_call 78; refine HCM.out.mono ?_; rintro e w1 ⟨v, rfl, ho, hb1⟩; obtain ⟨A1, c1, rfl⟩ := ho.shape; have HB1 := Lib.hid hb1; have HO := Lib.hid ho; clear hb1 ho)
  rw [← HN.out]
  clear HCM
  go_loopw [5, 13] (fun uv iv wr => ∃ i : Nat, i ≤ n ∧ iv = .int .i64 i ∧ uv = .int .i64 (orN Nd.fr (l.take i) 0) ∧ Below w1.heap.size w1 wr) (fun _ iv _ => n - (intOf iv).toNat)
  case atStart => exact ⟨0, Nat.zero_le _, rfl, rfl, Below.refl _ _⟩
  case round =>
    obtain ⟨i, hi, rfl, rfl, hb⟩ := hrel
    have HB := Lib.hid hb
    by_cases hlt : i < n
    · have hin : (i : Int) < (n : Int) := by omega
      obtain ⟨nd, hnd⟩ : ∃ nd, l[i]? = some nd := ⟨_, List.getElem?_eq_getElem (by rw [← HN.out]; exact hlt)⟩
      obtain ⟨b, cap, ev, hc⟩ := (HO.out.below hb).at hnd
      injection ev with eA en ec
      subst eA ec
      obtain ⟨c0, c1, c2, c3, c4, c5⟩ := hc
      have HSN := Lib.hid (show orN Nd.fr (l.take (i + 1)) 0 = orN Nd.fr (l.take i) 0 ||| Nd.fr nd by rw [List.take_add_one, hnd]; exact orN_snoc Nd.fr _ _ _)
      have HLA := Lib.hid (orN_lt Nd.fr HLT.out (l.take i) 0 (by decide))
      obtain ⟨a, ea⟩ : ∃ a, a = orN Nd.fr (l.take i) 0 := ⟨_, rfl⟩
      rw [← ea] at HSN HLA ⊢
      clear hb hnd en ea
      have HBO := Lib.hid (fo_or_nat a (Nd.fr nd) HLA.out (HLT.out nd))
      go_upto_region 6 with (go_at_call 91; refine (uses_any nd _).mono ?_; rintro e w2 ⟨rfl, hb1⟩; have HB2 := Lib.hid (below_trans HB.out (below_trans (below_alloc _ _) hb1)); have HX := Lib.hid ((Blk.new wr #[.int .i64 nd.op, .int .i64 0, .int .i64 0, .int .i64 nd.g, .int .i64 nd.x, .int .i64 nd.y] 108).below hb1); clear hb1)
      have hu := Blk.new w2 #[.bool nd.ux, .bool nd.uy, .bool nd.uf, .bool false, .bool nd.ug, .bool false, .int .i64 nd.fr] 135
      have hba := below_alloc w2 (.cells #[.bool nd.ux, .bool nd.uy, .bool nd.uf, .bool false, .bool nd.ug, .bool false, .int .i64 nd.fr] 135)
      obtain ⟨V, eV⟩ : ∃ V, V = w2.alloc (.cells #[.bool nd.ux, .bool nd.uy, .bool nd.uf, .bool false, .bool nd.ug, .bool false, .int .i64 nd.fr] 135) := ⟨_, rfl⟩
      rw [← eV] at hu hba ⊢
      have hx := HX.out.below hba
      have x0 := hx.cell (k := 0) rfl
      have x1 := hx.cell (k := 1) rfl
      have x2 := hx.cell (k := 2) rfl
      have x3 := hx.cell (k := 3) rfl
      have x4 := hx.cell (k := 4) rfl
      have x5 := hx.cell (k := 5) rfl
      have y0 := hu.cell (k := 0) rfl
      have y1 := hu.cell (k := 1) rfl
      have y2 := hu.cell (k := 2) rfl
      have y3 := hu.cell (k := 3) rfl
      have y4 := hu.cell (k := 4) rfl
      have y5 := hu.cell (k := 5) rfl
      have y6 := hu.cell (k := 6) rfl
      have HB3 := Lib.hid (below_trans HB2.out hba)
      clear hu hba hx eV HB2 HX c0 c1 c2 c3 c4 c5
      go_wp2_with (go_at_call 99; refine (HM.out nd V).mono ?_; rintro e w3 ⟨rfl, hb1⟩; have HB4 := Lib.hid (below_trans HB3.out hb1); clear hb1)
      rw [HBO.out]
      go_roundw
      case rel => exact ⟨i + 1, by omega, by go_num, by rw [HSN.out], HB4.out⟩
      case measure => simp [intOf]; omega
    · obtain rfl : i = n := by omega
      have hin : ¬ (i : Int) < (i : Int) := by omega
      have HT := Lib.hid (show l.take i = l by rw [HN.out, List.take_length])
      clear hb
      go_wp2_with fail
      rw [HT.out]
      go_ret
      exact ⟨rfl, below_trans HB1.out HB.out⟩
set_option maxHeartbeats 4000000 in
set_option maxRecDepth 100000 in
theorem union_Agents (fv : Value) (l : List Nd) (w : World) (h : NdO w 0 fv l) (hc : Can l) :
    Calls Try.prog 98 #[fv, .func (.func 133) #[] #[]] w fun e w' => e = .returned (.int .i64 (orN Nd.g l 0)) ∧ Below w.heap.size w w' := by
  have HCM := Lib.hid (Compact_any fv l w h hc)
  have HM := Lib.hid (fun n X => agents1 n X)
  have HLT := Lib.hid (fun n => g_lt n)
  obtain ⟨A, c, rfl⟩ := h.shape
  have hlen := hc.len
  obtain ⟨n, en⟩ : ∃ n, n = l.length := ⟨_, rfl⟩
  rw [← en] at hlen HCM ⊢
  have HN := Lib.hid en
  clear h hc en
  go_enter Try.func98, Try.ntmps98
  go_upto_region 3 with (go_at_call 78; refine HCM.out.mono ?_; rintro e w1 ⟨v, rfl, ho, hb1⟩; obtain ⟨A1, c1, rfl⟩ := ho.shape; have HB1 := Lib.hid hb1; have HO := Lib.hid ho; clear hb1 ho)
  rw [← HN.out]
  clear HCM
  go_loopw [5, 13] (fun uv iv wr => ∃ i : Nat, i ≤ n ∧ iv = .int .i64 i ∧ uv = .int .i64 (orN Nd.g (l.take i) 0) ∧ Below w1.heap.size w1 wr) (fun _ iv _ => n - (intOf iv).toNat)
  case atStart => exact ⟨0, Nat.zero_le _, rfl, rfl, Below.refl _ _⟩
  case round =>
    obtain ⟨i, hi, rfl, rfl, hb⟩ := hrel
    have HB := Lib.hid hb
    by_cases hlt : i < n
    · have hin : (i : Int) < (n : Int) := by omega
      obtain ⟨nd, hnd⟩ : ∃ nd, l[i]? = some nd := ⟨_, List.getElem?_eq_getElem (by rw [← HN.out]; exact hlt)⟩
      obtain ⟨b, cap, ev, hc⟩ := (HO.out.below hb).at hnd
      injection ev with eA en ec
      subst eA ec
      obtain ⟨c0, c1, c2, c3, c4, c5⟩ := hc
      have HSN := Lib.hid (show orN Nd.g (l.take (i + 1)) 0 = orN Nd.g (l.take i) 0 ||| Nd.g nd by rw [List.take_add_one, hnd]; exact orN_snoc Nd.g _ _ _)
      have HLA := Lib.hid (orN_lt Nd.g HLT.out (l.take i) 0 (by decide))
      obtain ⟨a, ea⟩ : ∃ a, a = orN Nd.g (l.take i) 0 := ⟨_, rfl⟩
      rw [← ea] at HSN HLA ⊢
      clear hb hnd en ea
      have HBO := Lib.hid (fo_or_nat a (Nd.g nd) HLA.out (HLT.out nd))
      go_upto_region 6 with (go_at_call 91; refine (uses_any nd _).mono ?_; rintro e w2 ⟨rfl, hb1⟩; have HB2 := Lib.hid (below_trans HB.out (below_trans (below_alloc _ _) hb1)); have HX := Lib.hid ((Blk.new wr #[.int .i64 nd.op, .int .i64 0, .int .i64 0, .int .i64 nd.g, .int .i64 nd.x, .int .i64 nd.y] 108).below hb1); clear hb1)
      have hu := Blk.new w2 #[.bool nd.ux, .bool nd.uy, .bool nd.uf, .bool false, .bool nd.ug, .bool false, .int .i64 nd.fr] 135
      have hba := below_alloc w2 (.cells #[.bool nd.ux, .bool nd.uy, .bool nd.uf, .bool false, .bool nd.ug, .bool false, .int .i64 nd.fr] 135)
      obtain ⟨V, eV⟩ : ∃ V, V = w2.alloc (.cells #[.bool nd.ux, .bool nd.uy, .bool nd.uf, .bool false, .bool nd.ug, .bool false, .int .i64 nd.fr] 135) := ⟨_, rfl⟩
      rw [← eV] at hu hba ⊢
      have hx := HX.out.below hba
      have x0 := hx.cell (k := 0) rfl
      have x1 := hx.cell (k := 1) rfl
      have x2 := hx.cell (k := 2) rfl
      have x3 := hx.cell (k := 3) rfl
      have x4 := hx.cell (k := 4) rfl
      have x5 := hx.cell (k := 5) rfl
      have y0 := hu.cell (k := 0) rfl
      have y1 := hu.cell (k := 1) rfl
      have y2 := hu.cell (k := 2) rfl
      have y3 := hu.cell (k := 3) rfl
      have y4 := hu.cell (k := 4) rfl
      have y5 := hu.cell (k := 5) rfl
      have y6 := hu.cell (k := 6) rfl
      have HB3 := Lib.hid (below_trans HB2.out hba)
      clear hu hba hx eV HB2 HX c0 c1 c2 c3 c4 c5
      go_wp2_with (go_at_call 133; refine (HM.out nd V).mono ?_; rintro e w3 ⟨rfl, hb1⟩; have HB4 := Lib.hid (below_trans HB3.out hb1); clear hb1)
      rw [HBO.out]
      go_roundw
      case rel => exact ⟨i + 1, by omega, by go_num, by rw [HSN.out], HB4.out⟩
      case measure => simp [intOf]; omega
    · obtain rfl : i = n := by omega
      have hin : ¬ (i : Int) < (i : Int) := by omega
      have HT := Lib.hid (show l.take i = l by rw [HN.out, List.take_length])
      clear hb
      go_wp2_with fail
      rw [HT.out]
      go_ret
      exact ⟨rfl, below_trans HB1.out HB.out⟩
set_option maxHeartbeats 4000000 in
set_option maxRecDepth 100000 in
theorem union_Facts (fv : Value) (l : List Nd) (w : World) (h : NdO w 0 fv l) (hc : Can l) :
    Calls Try.prog 98 #[fv, .func (.func 134) #[] #[]] w fun e w' => e = .returned (.int .i64 (orN facM l 0)) ∧ Below w.heap.size w w' := by
  have HCM := Lib.hid (Compact_any fv l w h hc)
  have HM := Lib.hid (fun n X => facts1 n X)
  have HLT := Lib.hid (fun n => facM_lt n)
  obtain ⟨A, c, rfl⟩ := h.shape
  have hlen := hc.len
  obtain ⟨n, en⟩ : ∃ n, n = l.length := ⟨_, rfl⟩
  rw [← en] at hlen HCM ⊢
  have HN := Lib.hid en
  clear h hc en
  go_enter Try.func98, Try.ntmps98
  go_upto_region 3 with (go_at_call 78; refine HCM.out.mono ?_; rintro e w1 ⟨v, rfl, ho, hb1⟩; obtain ⟨A1, c1, rfl⟩ := ho.shape; have HB1 := Lib.hid hb1; have HO := Lib.hid ho; clear hb1 ho)
  rw [← HN.out]
  clear HCM
  go_loopw [5, 13] (fun uv iv wr => ∃ i : Nat, i ≤ n ∧ iv = .int .i64 i ∧ uv = .int .i64 (orN facM (l.take i) 0) ∧ Below w1.heap.size w1 wr) (fun _ iv _ => n - (intOf iv).toNat)
  case atStart => exact ⟨0, Nat.zero_le _, rfl, rfl, Below.refl _ _⟩
  case round =>
    obtain ⟨i, hi, rfl, rfl, hb⟩ := hrel
    have HB := Lib.hid hb
    by_cases hlt : i < n
    · have hin : (i : Int) < (n : Int) := by omega
      obtain ⟨nd, hnd⟩ : ∃ nd, l[i]? = some nd := ⟨_, List.getElem?_eq_getElem (by rw [← HN.out]; exact hlt)⟩
      obtain ⟨b, cap, ev, hc⟩ := (HO.out.below hb).at hnd
      injection ev with eA en ec
      subst eA ec
      obtain ⟨c0, c1, c2, c3, c4, c5⟩ := hc
      have HSN := Lib.hid (show orN facM (l.take (i + 1)) 0 = orN facM (l.take i) 0 ||| facM nd by rw [List.take_add_one, hnd]; exact orN_snoc facM _ _ _)
      have HLA := Lib.hid (orN_lt facM HLT.out (l.take i) 0 (by decide))
      obtain ⟨a, ea⟩ : ∃ a, a = orN facM (l.take i) 0 := ⟨_, rfl⟩
      rw [← ea] at HSN HLA ⊢
      clear hb hnd en ea
      have HBO := Lib.hid (fo_or_nat a (facM nd) HLA.out (HLT.out nd))
      go_upto_region 6 with (go_at_call 91; refine (uses_any nd _).mono ?_; rintro e w2 ⟨rfl, hb1⟩; have HB2 := Lib.hid (below_trans HB.out (below_trans (below_alloc _ _) hb1)); have HX := Lib.hid ((Blk.new wr #[.int .i64 nd.op, .int .i64 0, .int .i64 0, .int .i64 nd.g, .int .i64 nd.x, .int .i64 nd.y] 108).below hb1); clear hb1)
      have hu := Blk.new w2 #[.bool nd.ux, .bool nd.uy, .bool nd.uf, .bool false, .bool nd.ug, .bool false, .int .i64 nd.fr] 135
      have hba := below_alloc w2 (.cells #[.bool nd.ux, .bool nd.uy, .bool nd.uf, .bool false, .bool nd.ug, .bool false, .int .i64 nd.fr] 135)
      obtain ⟨V, eV⟩ : ∃ V, V = w2.alloc (.cells #[.bool nd.ux, .bool nd.uy, .bool nd.uf, .bool false, .bool nd.ug, .bool false, .int .i64 nd.fr] 135) := ⟨_, rfl⟩
      rw [← eV] at hu hba ⊢
      have hx := HX.out.below hba
      have x0 := hx.cell (k := 0) rfl
      have x1 := hx.cell (k := 1) rfl
      have x2 := hx.cell (k := 2) rfl
      have x3 := hx.cell (k := 3) rfl
      have x4 := hx.cell (k := 4) rfl
      have x5 := hx.cell (k := 5) rfl
      have y0 := hu.cell (k := 0) rfl
      have y1 := hu.cell (k := 1) rfl
      have y2 := hu.cell (k := 2) rfl
      have y3 := hu.cell (k := 3) rfl
      have y4 := hu.cell (k := 4) rfl
      have y5 := hu.cell (k := 5) rfl
      have y6 := hu.cell (k := 6) rfl
      have HB3 := Lib.hid (below_trans HB2.out hba)
      clear hu hba hx eV HB2 HX c0 c1 c2 c3 c4 c5
      go_wp2_with (go_at_call 134; refine (HM.out nd V).mono ?_; rintro e w3 ⟨rfl, hb1⟩; have HB4 := Lib.hid (below_trans HB3.out hb1); clear hb1)
      rw [HBO.out]
      go_roundw
      case rel => exact ⟨i + 1, by omega, by go_num, by rw [HSN.out], HB4.out⟩
      case measure => simp [intOf]; omega
    · obtain rfl : i = n := by omega
      have hin : ¬ (i : Int) < (i : Int) := by omega
      have HT := Lib.hid (show l.take i = l by rw [HN.out, List.take_length])
      clear hb
      go_wp2_with fail
      rw [HT.out]
      go_ret
      exact ⟨rfl, below_trans HB1.out HB.out⟩
theorem Frags_any (fv : Value) (l : List Nd) (w : World) (h : NdO w 0 fv l) (hc : Can l) : Calls Try.prog 75 #[fv] w fun e w' => e = .returned (.int .i64 (orN Nd.fr l 0)) ∧ Below w.heap.size w w' := by
  have HU := Lib.hid (union_Frags fv l w h hc)
  clear h hc
  go_enter Try.func75, Try.ntmps75
  go_wp2_with (go_at_call 98; refine HU.out.mono ?_; rintro e w1 ⟨rfl, hb1⟩; have HB1 := Lib.hid hb1; clear hb1)
  go_ret
  exact ⟨rfl, HB1.out⟩
theorem Agents_any (fv : Value) (l : List Nd) (w : World) (h : NdO w 0 fv l) (hc : Can l) : Calls Try.prog 101 #[fv] w fun e w' => e = .returned (.int .i64 (orN Nd.g l 0)) ∧ Below w.heap.size w w' := by
  have HU := Lib.hid (union_Agents fv l w h hc)
  clear h hc
  go_enter Try.func101, Try.ntmps101
  go_wp2_with (go_at_call 98; refine HU.out.mono ?_; rintro e w1 ⟨rfl, hb1⟩; have HB1 := Lib.hid hb1; clear hb1)
  go_ret
  exact ⟨rfl, HB1.out⟩
theorem Facts_any (fv : Value) (l : List Nd) (w : World) (h : NdO w 0 fv l) (hc : Can l) : Calls Try.prog 102 #[fv] w fun e w' => e = .returned (.int .i64 (orN facM l 0)) ∧ Below w.heap.size w w' := by
  have HU := Lib.hid (union_Facts fv l w h hc)
  clear h hc
  go_enter Try.func102, Try.ntmps102
  go_wp2_with (go_at_call 98; refine HU.out.mono ?_; rintro e w1 ⟨rfl, hb1⟩; have HB1 := Lib.hid hb1; clear hb1)
  go_ret
  exact ⟨rfl, HB1.out⟩
theorem fits1 (m n : Nat) (w : World) (hn : n < 31) (hm : m < 2 ^ n) : Calls Try.prog 100 #[.int .i64 m, .int .i64 n] w fun e w' => e = .returned (.bool true) ∧ w = w' := by
  have t1 : decide ((n : Int) ≥ 31) = false := decide_eq_false (by omega)
  have t2 : ((m : Int) / 2 ^ n == 0) = true := by
    rw [beq_iff_eq]
    refine Int.ediv_eq_zero_of_lt (Int.natCast_nonneg m) ?_
    exact_mod_cast hm
  clear hm
  go_enter Try.func100, Try.ntmps100
  go_wp2_with fail
  go_ret
  exact ⟨rfl, rfl⟩
set_option maxHeartbeats 4000000 in
theorem Fits_any (fv : Value) (l : List Nd) (a b : Nat) (w : World) (h : NdO w 0 fv l) (hc : Can l) (ha : a < 31) (hb : b < 31) (ha2 : orN Nd.g l 0 < 2 ^ a) (hb2 : orN facM l 0 < 2 ^ b) :
    Calls Try.prog 76 #[fv, .int .i64 a, .int .i64 b] w fun e w' => e = .returned (.bool true) ∧ Below w.heap.size w w' := by
  have HCK := Lib.hid (foCheck_any fv l 0 w h hc.ok hc.pos hc.len)
  have HAG := Lib.hid (fun X (hX : Below w.heap.size w X) => Agents_any fv l X (h.below hX) hc)
  have HFA := Lib.hid (fun X (hX : Below w.heap.size w X) => Facts_any fv l X (h.below hX) hc)
  have HF1 := Lib.hid (fun X => fits1 (orN Nd.g l 0) a X ha ha2)
  have HF2 := Lib.hid (fun X => fits1 (orN facM l 0) b X hb hb2)
  generalize orN Nd.g l 0 = ga at HAG HF1
  generalize orN facM l 0 = fa at HFA HF2
  obtain ⟨A, c, rfl⟩ := h.shape
  clear h hc ha hb ha2 hb2
  go_enter Try.func76, Try.ntmps76
  go_wp2_with (first
    | (go_at_call 74; refine HCK.out.mono ?_; rintro e w1 ⟨rfl, hb1⟩; have HB1 := Lib.hid hb1; clear hb1)
    | (go_at_call 101; refine (HAG.out _ HB1.out).mono ?_; rintro e w2 ⟨rfl, hb1⟩; have HB2 := Lib.hid (below_trans HB1.out hb1); clear hb1)
    | (go_at_call 102; refine (HFA.out _ HB2.out).mono ?_; rintro e w3 ⟨rfl, hb1⟩; have HB3 := Lib.hid (below_trans HB2.out hb1); clear hb1)
    | (go_at_call 100; (first | (refine (HF2.out w3).mono ?_) | (refine (HF1.out w2).mono ?_)); rintro e w' ⟨rfl, rfl⟩))
  go_ret
  exact ⟨rfl, HB3.out⟩
end Go.Proofs.Ytahaimecchdfeaa
