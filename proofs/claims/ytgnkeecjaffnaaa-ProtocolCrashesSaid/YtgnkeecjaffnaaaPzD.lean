/-
  Walks of layer 54: Crashes.
-/
import Derived.Test.YtgnkeecjaffnaaaProg
import Derived.Test.YtgnkeecjaffnaaaBase
import Derived.Test.YtgnkeecjaffnaaaRow
import Derived.Test.YtgnkeecjaffnaaaRowsOf
import Derived.Test.YtgnkeecjaffnaaaPc
import Derived.Test.YtgnkeecjaffnaaaPd
import Derived.Test.YtgnkeecjaffnaaaPoP
import Derived.Test.YtgnkeecjaffnaaaPrN
import Derived.Test.YtgnkeecjaffnaaaPfA
import Derived.Test.YtgnkeecjaffnaaaPfB
import Derived.Test.YtgnkeecjaffnaaaPtP
import Derived.Test.YtgnkeecjaffnaaaPtQ
import Derived.Test.YtgnkeecjaffnaaaPtB
import Derived.Test.YtgnkeecjaffnaaaPzA
import Derived.Deep.AppendLies
import Derived.Laws.EntriesVeiled
import Derived.Test.YtgnkeecjaffnaaaPrI
import Derived.Test.YtgnkeecjaffnaaaPrM
import Derived.Test.YtgnkeecjaffnaaaPzB
import Derived.Deep.RegionHeld3
import Derived.Deep.DeepCutAuto
namespace Go.Proofs.Ytgnkeecjaffnaaa
open Go.RowKit

/-! ### the system -/
def rdP (l : List (Nat × Nat)) (i : Nat) : Int := ((l.getD i (0, 0)).1 : Nat)
def tvP (l : List (Nat × Nat)) (i : Nat) : Int := ((l.getD i (0, 0)).2 : Nat)
def gD (N r : Nat) (x : Int) (l : List (Nat × Nat)) : RunD := floD N r x.toNat (rdP l) (tvP l)
/-- The runs for the first i initial values, and for the next one those of the first k patterns. -/
def crP (N r : Nat) (f : Nat → Int) (pts : List (List (Nat × Nat))) (i k : Nat) : List RunD := ((List.range i).flatMap fun a => pts.map (gD N r (f a))) ++ (pts.take k).map (gD N r (f i))
theorem crP_zero (N r : Nat) (f : Nat → Int) (pts : List (List (Nat × Nat))) : crP N r f pts 0 0 = [] := by simp [crP]
theorem crP_step {N r : Nat} {f : Nat → Int} {pts : List (List (Nat × Nat))} {i k : Nat} {l : List (Nat × Nat)} (h : pts[k]? = some l) : crP N r f pts i (k + 1) = crP N r f pts i k ++ [gD N r (f i) l] := by
  unfold crP
  rw [List.take_add_one, h, List.map_append, List.append_assoc]; rfl
theorem crP_row (N r : Nat) (f : Nat → Int) (pts : List (List (Nat × Nat))) (i : Nat) : crP N r f pts i pts.length = crP N r f pts (i + 1) 0 := by
  unfold crP
  rw [List.take_length, List.range_succ, List.flatMap_append]; simp
theorem crP_len {N r : Nat} {f : Nat → Int} {pts : List (List (Nat × Nat))} {i k : Nat} (hk : k ≤ pts.length) : (crP N r f pts i k).length = i * pts.length + k := by
  unfold crP
  rw [List.length_append, List.length_map, List.length_take, Nat.min_eq_left hk]
  congr 1
  induction i with
  | zero => simp
  | succ i ih => rw [List.range_succ, List.flatMap_append, List.length_append, ih, Nat.succ_mul]; simp
def badX (N : Nat) (x : Int) : Bool := decide (x < 0) || decide (((2 ^ N : Nat) : Int) ≤ x)
/-- The error of the system of all patterns. -/
def crE (n F R : Int) (m : Nat) (f : Nat → Int) : Nat :=
  if patE n F R = 0 then (if m = 0 then 3 else if allB m (fun i => !badX n.toNat (f i)) then (if 64 < m * (patL n F R).length then 8 else 0) else 2) else patE n F R
def crD (n F R : Int) (m : Nat) (f : Nat → Int) : SysD := if crE n F R m f = 0 then ⟨n, 2 * n, R + 1, crP n.toNat R.toNat f (patL n F R) m 0⟩ else SysD.none
/-- A pattern of all processes, read as a list of crashes. -/
theorem crS_of {w : World} {base : Nat} {v : Value} {l : List (Nat × Nat)} {N R : Nat} (h : CrO w base v l) (hl : l.length = N) (hp : patOk N R l) (hN : N ≤ 4) (hR : R ≤ 3) : ∃ A c, v = .slice A N c ∧ CrS w A N (rdP l) (tvP l) ∧ ∀ i, i < N → 0 ≤ tvP l i := by
  subst hl
  obtain ⟨A, c, rfl, hA⟩ := own_form' h
  refine ⟨A, c, rfl, fun k hk => ?_, fun i _ => Int.natCast_nonneg _⟩
  have hg : l[k]? = some (l.getD k (0, 0)) := by rw [List.getD_eq_getElem?_getD, List.getElem?_eq_getElem hk]; rfl
  obtain ⟨g1, g2⟩ := crL_get l k _ hg
  obtain ⟨b, rfl, _, _, h1⟩ := hA (k * 2) (by omega)
  obtain ⟨b', e, _, _, h2⟩ := hA (k * 2 + 1) (by omega)
  injection e with e
  injection e with e _ _
  subst e
  obtain ⟨p1, p2, -, -⟩ := hp k _ hg
  have h16 : (2 : Nat) ^ l.length ≤ 16 := Nat.pow_le_pow_right (n := 2) (j := 4) (by decide) hN
  refine ⟨b, 0, rfl, by rw [Nat.zero_add]; exact h1.trans g1, by rw [Nat.zero_add]; exact h2.trans g2, ?_, ?_⟩
  · show _ ≤ (((l.getD k (0, 0)).1 : Nat) : Int) ∧ (((l.getD k (0, 0)).1 : Nat) : Int) ≤ _
    omega
  · show _ ≤ (((l.getD k (0, 0)).2 : Nat) : Int) ∧ (((l.getD k (0, 0)).2 : Nat) : Int) ≤ _
    omega
/-- What the walks of Crashes hold: the boxes of the number of processes, the result, the system; the runs, the patterns. -/
structure SyI (w0 w : World) (bN : Option Nat) (b2 bS : Nat) (n u0 u1 u2 : Int) (pv vR : Value) (pts : List (List (Nat × Nat))) (ps : List RunD) : Prop where
  below : Below w0.heap.size w0 w
  h2 : Blk w b2 44 #[.int .i64 0, .int .i64 0, .int .i64 0, .slice none 0 0]
  hN : ∀ b, bN = some b → Blk w b 3 #[.int .i64 n]
  hS : Blk w bS 44 #[.int .i64 u0, .int .i64 u1, .int .i64 u2, vR]
  ne : b2 ≠ bS
  ge : w0.heap.size ≤ b2 ∧ w0.heap.size ≤ bS
  runs : RunsO w w0.heap.size vR ps
  pats : PatsO w w0.heap.size pv pts
section
variable {w0 w w1 : World} {bN : Option Nat} {b2 bS : Nat} {n u0 u1 u2 : Int} {pv vR : Value} {pts : List (List (Nat × Nat))} {ps : List RunD}
theorem SyI.keep (h : SyI w0 w bN b2 bS n u0 u1 u2 pv vR pts ps) (hb : Below w.heap.size w w1) : SyI w0 w1 bN b2 bS n u0 u1 u2 pv vR pts ps :=
  ⟨h.below.trans (hb.mono h.below.size), h.h2.below hb, fun b e => (h.hN b e).below hb, h.hS.below hb, h.ne, h.ge, h.runs.below hb, h.pats.below hb⟩
theorem SyI.box (h : SyI w0 w bN b2 bS n u0 u1 u2 pv vR pts ps) {rows : List Value} {N : Nat} {o : Obj} (ho : w.ownsRow w0.heap.size 30 2 vR N rows) (hg : (w.alloc o).grownBy w1 vR.ownBlock) :
    w1.cell? ⟨bS, 3, none⟩ = some vR ∧ w1.frozen? ⟨bS, 3, none⟩ = false := by
  have hb := below_alloc w o
  have hS1 := (h.hS.below hb).kept hg ((h.hS.below hb).ne_row' (own_alloc' ho o) (by decide))
  exact ⟨hS1.cell rfl, hS1.frozen⟩
theorem SyI.grow (h : SyI w0 w bN b2 bS n u0 u1 u2 pv vR pts ps) {rows : List Value} {x y v' : Value} {d : RunD} {o : Obj} (ho : w.ownsRow w0.heap.size 30 2 vR ps.length rows)
    (hr : ∀ i d, ps[i]? = some d → ∃ x y, rows[i * 2]? = some x ∧ rows[i * 2 + 1]? = some y ∧ d.owned w w0.heap.size (.agg #[x, y])) (hd : d.owned w w0.heap.size (.agg #[x, y]))
    (hown : w1.ownsRow w0.heap.size 30 2 v' (ps.length + 1) (rows ++ [x, y])) (hg : (w.alloc o).grownBy w1 vR.ownBlock) :
    SyI w0 (w1.setCell ⟨bS, 3, none⟩ v') bN b2 bS n u0 u1 u2 pv v' pts (ps ++ [d]) := by
  have hb := below_alloc w o
  have ho1 := own_alloc' ho o
  have hlt := ho1.lt
  have hsz : (w.alloc o).heap.size = w.heap.size + 1 := by simp
  have hS1 := (h.hS.below hb).kept hg ((h.hS.below hb).ne_row' ho1 (by decide))
  have h21 := (h.h2.below hb).kept hg ((h.h2.below hb).ne_row' ho1 (by decide))
  have hR1 := RunsO.push ho hr hd hown hg
  have K : ∀ t : TypeId, t ≠ 30 → t ≠ 44 → Keeps w (w1.setCell ⟨bS, 3, none⟩ v') t := fun t h1 h2 => ((Keeps.of_below hb _).trans (Keeps.of_grown hg ho1 h1)).trans (.of_set hS1 h2 _ _)
  exact ⟨((h.below.alloc h.below.size o).grown hg (by have := h.below.size; omega) (fun k hk => (hlt k hk).1)).setCell (p := ⟨bS, 3, none⟩) h.ge.2 _, h21.set_ne h.ne _ _, fun b e => K _ (by decide) (by decide) b _ (h.hN b e), hS1.set 3 v', h.ne, h.ge,
    hR1.keeps (.of_set hS1 (by decide) _ _) (.of_set hS1 (by decide) _ _) (.of_set hS1 (by decide) _ _) (.of_set hS1 (by decide) _ _), h.pats.keeps (K _ (by decide) (by decide)) (K _ (by decide) (by decide))⟩
end

/-! ### the initial values -/
theorem cr1_any (x : Int) (N bn : Nat) (w : World) (hN : N ≤ 4) (hc : w.cell? ⟨bn, 0, none⟩ = some (.int .i64 N)) :
    Calls Try.prog 62 #[.int .i64 x, .pointer (some ⟨bn, 0, none⟩)] w fun e w' => e = .returned (.bool (badX N x)) ∧ Below w.heap.size w w' := by
  have hw := wrap_pow (k := N) rfl hN
  have hpw : ((2 ^ N : Nat) : Int) = (2 : Int) ^ N := by rw [Int.natCast_pow]; rfl
  obtain ⟨B, eB⟩ : ∃ B, B = badX N x := ⟨_, rfl⟩
  rw [← eB]
  by_cases h0 : x < 0
  · have e0 : decide (x < 0) = true := decide_eq_true h0
    have HB := Lib.hid (show B = true by rw [eB]; unfold badX; rw [e0]; rfl)
    clear h0 eB
    go_enter Try.func62, Try.ntmps62
    go_wp2_with fail
    first
      | (go_ret; exact ⟨by rw [HB.out]; rfl, Below.refl _ _⟩)
      | (go_quiet (fail); go_wp2_with fail; go_ret; exact ⟨by rw [HB.out]; rfl, below_drewN (Below.refl _ _) _⟩)
  · have e0 : decide (x < 0) = false := decide_eq_false h0
    by_cases h1 : (2 : Int) ^ N ≤ x
    · have e1 : decide ((2 : Int) ^ N ≤ x) = true := decide_eq_true h1
      have HB := Lib.hid (show B = true by rw [eB]; unfold badX; rw [e0, hpw, e1]; rfl)
      clear h0 h1 eB hpw
      go_enter Try.func62, Try.ntmps62
      go_wp2_with fail
      first
        | (go_ret; exact ⟨by rw [HB.out]; rfl, Below.refl _ _⟩)
        | (go_quiet (fail); go_wp2_with fail; go_ret; exact ⟨by rw [HB.out]; rfl, below_drewN (Below.refl _ _) _⟩)
    · have e1 : decide ((2 : Int) ^ N ≤ x) = false := decide_eq_false h1
      have HB := Lib.hid (show B = false by rw [eB]; unfold badX; rw [e0, hpw, e1]; rfl)
      clear h0 h1 eB hpw
      go_enter Try.func62, Try.ntmps62
      go_wp2_with fail
      first
        | (go_ret; exact ⟨by rw [HB.out]; rfl, Below.refl _ _⟩)
        | (go_quiet (fail); go_wp2_with fail; go_ret; exact ⟨by rw [HB.out]; rfl, below_drewN (Below.refl _ _) _⟩)
def idxB (m N : Nat) (f : Nat → Int) : Int := if firstNo m (fun v => !badX N (f v)) < m then (firstNo m (fun v => !badX N (f v)) : Nat) else -1
theorem idxB_hit {m N v : Nat} {f : Nat → Int} (hv : v < m) (h : ∀ i, i < v → badX N (f i) = false) (hb : badX N (f v) = true) : idxB m N f = (v : Int) := by
  have e := firstNo_hit (p := fun v => !badX N (f v)) hv (fun i hi => by simp [h i hi]) (by simp [hb])
  unfold idxB; rw [e, if_pos hv]
theorem idxB_none {m N : Nat} {f : Nat → Int} (h : ∀ i, i < m → badX N (f i) = false) : idxB m N f = -1 := by
  have e := firstNo_all (p := fun v => !badX N (f v)) (n := m) (fun i hi => by simp [h i hi])
  unfold idxB; rw [e, if_neg (Nat.lt_irrefl _)]
theorem crIndex_any (A : Option Addr) (m c N bn : Nat) (f : Nat → Int) (w : World) (hT : I64s w A m f) (hm : m ≤ 9223372036854775807) (hN : N ≤ 4) (hc : w.cell? ⟨bn, 0, none⟩ = some (.int .i64 N)) :
    Calls Try.prog 77 #[.slice A m c, .func (.func 62) #[] #[.pointer (some ⟨bn, 0, none⟩)]] w fun e w' => e = .returned (.int .i64 (idxB m N f)) ∧ Below w.heap.size w w' := by
  have HT := Lib.hid hT
  have HC := Lib.hid hc
  clear hT hc
  go_enter Try.func77, Try.ntmps77
  go_wp2
  go_loopw [8] (fun i wr => ∃ v : Nat, v ≤ m ∧ i = .int .i64 v ∧ Hid (∀ i, i < v → badX N (f i) = false) ∧ Below w.heap.size w wr) (fun i _ => m - (intOf i).toNat)
  case atStart => exact ⟨0, Nat.zero_le _, rfl, Lib.hid fun i h => absurd h (Nat.not_lt_zero _), Below.refl _ _⟩
  case round =>
    obtain ⟨v, hv, rfl, HF, hbl⟩ := hrel
    by_cases hlt : v < m
    · obtain ⟨b, off, rfl, c1, -, -⟩ := HT.out.below hbl v hlt
      have HCL := Lib.hid (fun x => cr1_any x N bn wr hN (cell_below hbl HC.out))
      have HB := Lib.hid hbl
      obtain ⟨x, ex⟩ : ∃ x, x = f v := ⟨_, rfl⟩
      rw [← ex] at c1
      cases hb : badX N x
      · have HF2 : Hid (∀ i, i < v + 1 → badX N (f i) = false) := Lib.hid fun i h => by
          rcases Nat.lt_succ_iff_lt_or_eq.1 h with h3 | rfl
          · exact HF.out i h3
          · rw [← ex]; exact hb
        have HC1 := Lib.hid (HCL.out x)
        rw [hb] at HC1
        clear hb ex hbl HCL
        go_wp2_with (go_at_call 62; refine HC1.out.mono ?_; rintro e w1 ⟨rfl, hb1⟩; have HB := Lib.hid (HB.out.trans (hb1.mono HB.out.size)); clear hb1)
        go_roundw
        case rel => exact ⟨v + 1, by omega, by go_num, HF2, HB.out⟩
        case measure => simp [intOf]; omega
      · have HI := Lib.hid (idxB_hit hlt HF.out (by rw [← ex]; exact hb))
        have HC1 := Lib.hid (HCL.out x)
        rw [hb] at HC1
        clear hb ex hbl HCL
        go_wp2_with (go_at_call 62; refine HC1.out.mono ?_; rintro e w1 ⟨rfl, hb1⟩; have HB := Lib.hid (HB.out.trans (hb1.mono HB.out.size)); clear hb1)
        go_ret
        exact ⟨by rw [HI.out]; rfl, HB.out⟩
    · obtain rfl : v = m := by omega
      have HI := Lib.hid (idxB_none HF.out)
      have HB := Lib.hid hbl
      clear hbl
      go_wp2
      go_ret
      exact ⟨by rw [HI.out]; rfl, HB.out⟩
theorem crContains_any (A : Option Addr) (m c N bn : Nat) (f : Nat → Int) (w : World) (hT : I64s w A m f) (hm : m ≤ 9223372036854775807) (hN : N ≤ 4) (hc : w.cell? ⟨bn, 0, none⟩ = some (.int .i64 N)) :
    Calls Try.prog 61 #[.slice A m c, .func (.func 62) #[] #[.pointer (some ⟨bn, 0, none⟩)]] w fun e w' => e = .returned (.bool (!allB m (fun v => !badX N (f v)))) ∧ Below w.heap.size w w' := by
  have HE : Hid (decide (0 ≤ idxB m N f) = !allB m (fun v => !badX N (f v))) := Lib.hid (by
    cases ha : allB m (fun v => !badX N (f v))
    · obtain ⟨u, hu, hf⟩ := not_allB ha
      obtain ⟨i1, i2, i3⟩ := firstNo_spec m (fun v => !badX N (f v))
      have : firstNo m (fun v => !badX N (f v)) < m := by
        rcases Nat.lt_or_ge (firstNo m (fun v => !badX N (f v))) m with h1 | h1
        · exact h1
        · have := i2 u (by omega); rw [hf] at this; cases this
      unfold idxB; rw [if_pos this]; simp
    · rw [idxB_none fun i hi => by simpa using allB_iff.1 ha i hi]; rfl)
  have HI := Lib.hid (crIndex_any A m c N bn f w hT hm hN hc)
  clear hT hc
  go_enter Try.func61, Try.ntmps61
  go_wp2_with (go_at_call 77; refine HI.out.mono ?_; rintro e w1 ⟨rfl, hb1⟩; have HB := Lib.hid hb1; clear hb1)
  go_ret
  exact ⟨by rw [← HE.out]; rfl, HB.out⟩

theorem patE_ok {n F R : Int} (h : patE n F R = 0) : ∃ N r f : Nat, n = N ∧ R = r ∧ F = f ∧ 2 ≤ N ∧ N ≤ 4 ∧ r ≤ 3 ∧ patL n F R = pfx N r f N ∧ (pfx N r f N).length ≤ 64 := by
  have hb : patOkB n F R = true := by
    cases hb : patOkB n F R
    · unfold patE at h; rw [hb] at h; cases h
    · rfl
  have hb' : (2 ≤ n ∧ n ≤ 4 ∧ 0 ≤ R ∧ R ≤ 3) ∧ 0 ≤ F ∧ F ≤ n := of_decide_eq_true hb
  obtain ⟨N, rfl⟩ : ∃ N : Nat, n = N := ⟨n.toNat, by omega⟩
  obtain ⟨r, rfl⟩ : ∃ N : Nat, R = N := ⟨R.toNat, by omega⟩
  obtain ⟨f, rfl⟩ : ∃ N : Nat, F = N := ⟨F.toNat, by omega⟩
  have he := patE_eq (N := N) (R := r) (F := f) (by omega)
  rw [he.1] at h
  have hle : (pfx N r f N).length ≤ 64 := by
    by_cases h64 : 64 < (pfx N r f N).length
    · rw [if_pos h64] at h; cases h
    · omega
  exact ⟨N, r, f, rfl, rfl, rfl, by omega, by omega, by omega, he.2 hle, hle⟩
theorem badX_no {N : Nat} {x : Int} (h : badX N x = false) : 0 ≤ x ∧ x.toNat < 2 ^ N := by
  unfold badX at h
  rw [Bool.or_eq_false_iff] at h
  have h1 := of_decide_eq_false h.1
  have h2 := of_decide_eq_false h.2
  omega
set_option maxHeartbeats 4000000 in
set_option maxRecDepth 100000 in
theorem Crashes_any (n F R : Int) (A : Option Addr) (m c : Nat) (f : Nat → Int) (w : World) (hx : I64s w A m f) (hm : m ≤ 65536) :
    Calls Try.prog 37 #[.int .i64 n, .int .i64 F, .int .i64 R, .slice A m c] w (SysPost w (crD n F R m f) (crE n F R m f)) := by
  obtain ⟨W, hW⟩ : ∃ W, W = (w.alloc (.cells #[.int .i64 n] 3)).alloc (.cells #[.int .i64 0, .int .i64 0, .int .i64 0, .slice none 0 0] 44) := ⟨_, rfl⟩
  obtain ⟨hN, h2, hB⟩ := two_boxes4 w _ _ _ _ W hW
  have HP := Lib.hid (fun w => Patterns_any n F R w)
  have n0 := hN.cell (k := 0) rfl
  have HN := Lib.hid hN
  have HK2 := Lib.hid h2
  have HB := Lib.hid hB
  have hsW := hB.size
  have HW := Lib.hid hW
  have HX := Lib.hid hx
  clear hN h2 hB hW hx
  by_cases hE0 : patE n F R = 0
  case neg =>
    have hE : crE n F R m f = patE n F R := if_neg hE0
    have HE := Lib.hid hE
    have HD := Lib.hid (show crD n F R m f = SysD.none from if_neg (by rw [hE]; exact hE0))
    obtain ⟨E, eE⟩ : ∃ E, E = patE n F R := ⟨_, rfl⟩
    rw [← eE] at HP HE hE0
    have t1 : ((E : Int) != 0) = true := by rw [bne_iff_ne]; omega
    clear hE eE hE0
    go_enter Try.func37, Try.ntmps37
    go_upto_region 1 with (fail)
    rw [← HW.out]
    clear HW
    go_upto_region 3 with (go_at_call 34; refine (HP.out _).mono ?_; rintro e w1 ⟨pv, rfl, hp, hb1⟩; have HPT := Lib.hid hp; have HK2 := Lib.hid (HK2.out.below hb1); have HN := Lib.hid (HN.out.below hb1); have HB := Lib.hid (HB.out.trans (hb1.mono HB.out.size)); clear hp hb1)
    obtain ⟨⟨c0, f0, c1, f1, c2, f2, c3, f3⟩, hk2⟩ := (HK2.out).put4 (.int .i64 0) (.int .i64 0) (.int .i64 0) (.slice none 0 0)
    have q0 := hk2.cell (k := 0) rfl
    have q1 := hk2.cell (k := 1) rfl
    have q2 := hk2.cell (k := 2) rfl
    have q3 := hk2.cell (k := 3) rfl
    clear hk2
    go_wp2_with fail
    exact bodyPost_ret (v := .tuple #[.agg #[.int .i64 0, .int .i64 0, .int .i64 0, .slice none 0 0], .int .i64 E]) (by simp [results, Try.results37, go_sem, q0, q1, q2, q3]) rfl (show SysPost w _ _ _ _ from by rw [HD.out, HE.out]; exact ⟨_, rfl, SysD.none_owned _ _, below_put4 HB.out (by omega) _ _ _ _⟩)
  obtain ⟨N, r, f', rfl, rfl, rfl, h2, h4, h3, hpl, h64⟩ := patE_ok hE0
  have hE1 : crE N f' r m f = if m = 0 then 3 else if allB m (fun i => !badX N (f i)) then (if 64 < m * (pfx N r f' N).length then 8 else 0) else 2 := by
    unfold crE; rw [if_pos hE0, Int.toNat_natCast, hpl]
  rw [hE0] at HP
  have hPM : ∀ l, l ∈ pfx N r f' N → l.length = N ∧ patOk N r l := fun l hl => ⟨pfx_len hl, pfx_ok hl⟩
  have HPM := Lib.hid hPM
  obtain ⟨pts, ep⟩ : ∃ p, p = pfx N r f' N := ⟨_, rfl⟩
  rw [← ep] at hpl h64 hE1 HPM
  rw [hpl] at HP
  have HPL := Lib.hid hpl
  have HE1 := Lib.hid hE1
  clear hE0 hE1 ep hPM hpl
  by_cases hm0 : m = 0
  · have t1 : ((m : Int) == 0) = true := by rw [beq_iff_eq]; omega
    have hE : crE N f' r m f = 3 := by rw [HE1.out, if_pos hm0]
    have HE := Lib.hid hE
    have HD := Lib.hid (show crD N f' r m f = SysD.none from if_neg (by rw [hE]; decide))
    clear hE hm0 HE1
    go_enter Try.func37, Try.ntmps37
    go_upto_region 1 with (fail)
    rw [← HW.out]
    clear HW
    go_upto_region 5 with (go_at_call 34; refine (HP.out _).mono ?_; rintro e w1 ⟨pv, rfl, hp, hb1⟩; have HPT := Lib.hid hp; have HK2 := Lib.hid (HK2.out.below hb1); have HN := Lib.hid (HN.out.below hb1); have HB := Lib.hid (HB.out.trans (hb1.mono HB.out.size)); clear hp hb1)
    obtain ⟨⟨c0, f0, c1, f1, c2, f2, c3, f3⟩, hk2⟩ := (HK2.out).put4 (.int .i64 0) (.int .i64 0) (.int .i64 0) (.slice none 0 0)
    have q0 := hk2.cell (k := 0) rfl
    have q1 := hk2.cell (k := 1) rfl
    have q2 := hk2.cell (k := 2) rfl
    have q3 := hk2.cell (k := 3) rfl
    clear hk2
    go_wp2_with fail
    exact bodyPost_ret (v := .tuple #[.agg #[.int .i64 0, .int .i64 0, .int .i64 0, .slice none 0 0], .int .i64 3]) (by simp [results, Try.results37, go_sem, q0, q1, q2, q3]) rfl (show SysPost w _ _ _ _ from by rw [HD.out, HE.out]; exact ⟨_, rfl, SysD.none_owned _ _, below_put4 HB.out (by omega) _ _ _ _⟩)
  have t1 : ((m : Int) == 0) = false := by rw [beq_eq_false_iff_ne]; omega
  have HCF := Lib.hid (fun W (h : I64s W A m f) (hc : W.cell? ⟨w.heap.size, 0, none⟩ = some (.int .i64 N)) => crContains_any A m c N w.heap.size f W h (by omega) h4 hc)
  cases hall : allB m (fun i => !badX N (f i))
  · rw [hall] at HCF
    have hE : crE N f' r m f = 2 := by rw [HE1.out, if_neg hm0, hall, if_neg (by decide)]
    have HE := Lib.hid hE
    have HD := Lib.hid (show crD N f' r m f = SysD.none from if_neg (by rw [hE]; decide))
    clear hE hm0 HE1 hall
    go_enter Try.func37, Try.ntmps37
    go_upto_region 1 with (fail)
    rw [← HW.out]
    clear HW
    go_upto_region 6 with (go_at_call 34; refine (HP.out _).mono ?_; rintro e w1 ⟨pv, rfl, hp, hb1⟩; have HPT := Lib.hid hp; have HK2 := Lib.hid (HK2.out.below hb1); have HN := Lib.hid (HN.out.below hb1); have HB := Lib.hid (HB.out.trans (hb1.mono HB.out.size)); clear hp hb1)
    have n0 := HN.out.cell (k := 0) rfl
    have HX := Lib.hid (HX.out.below HB.out)
    go_upto_region 7 with (go_at_call 61; refine (HCF.out _ HX.out n0).mono ?_; rintro e w2 ⟨rfl, hb1⟩; have HK2 := Lib.hid (HK2.out.below hb1); have HB := Lib.hid (HB.out.trans (hb1.mono HB.out.size)); clear hb1)
    obtain ⟨⟨c0, f0, c1, f1, c2, f2, c3, f3⟩, hk2⟩ := (HK2.out).put4 (.int .i64 0) (.int .i64 0) (.int .i64 0) (.slice none 0 0)
    have q0 := hk2.cell (k := 0) rfl
    have q1 := hk2.cell (k := 1) rfl
    have q2 := hk2.cell (k := 2) rfl
    have q3 := hk2.cell (k := 3) rfl
    clear hk2
    go_wp2_with fail
    exact bodyPost_ret (v := .tuple #[.agg #[.int .i64 0, .int .i64 0, .int .i64 0, .slice none 0 0], .int .i64 2]) (by simp [results, Try.results37, go_sem, q0, q1, q2, q3]) rfl (show SysPost w _ _ _ _ from by rw [HD.out, HE.out]; exact ⟨_, rfl, SysD.none_owned _ _, below_put4 HB.out (by omega) _ _ _ _⟩)
  rw [hall] at HCF
  obtain ⟨L, eL⟩ : ∃ L, L = pts.length := ⟨_, rfl⟩
  obtain ⟨M, eM⟩ : ∃ M, M = m * L := ⟨_, rfl⟩
  rw [← eL] at h64
  have hM : M ≤ 65536 * 64 := by rw [eM]; exact Nat.mul_le_mul hm h64
  have hmul : (m : Int) * (L : Int) = (M : Int) := by rw [eM, Int.natCast_mul]
  have hwr : IntKind.i64.wrap ((m : Int) * (L : Int)) = (M : Int) := by rw [hmul, IntKind.wrap_i64]; omega
  have hE2 : crE N f' r m f = if 64 < M then 8 else 0 := by rw [HE1.out, if_neg hm0, hall, if_pos rfl, ← eL, ← eM]
  have HAL := Lib.hid hall
  by_cases hov : 64 < M
  · have t2 : decide ((64 : Int) < (M : Int)) = true := decide_eq_true (by omega)
    have t2' : decide (64 < M) = true := decide_eq_true hov
    have hE : crE N f' r m f = 8 := by rw [hE2, if_pos hov]
    have HE := Lib.hid hE
    have HD := Lib.hid (show crD N f' r m f = SysD.none from if_neg (by rw [hE]; decide))
    have HLL := Lib.hid eL
    clear hE hm0 HE1 hall hE2 eM hov eL
    go_enter Try.func37, Try.ntmps37
    go_upto_region 1 with (fail)
    rw [← HW.out]
    clear HW
    go_upto_region 6 with (go_at_call 34; refine (HP.out _).mono ?_; rintro e w1 ⟨pv, rfl, hp, hb1⟩; have HPT := Lib.hid hp; have HK2 := Lib.hid (HK2.out.below hb1); have HN := Lib.hid (HN.out.below hb1); have HB := Lib.hid (HB.out.trans (hb1.mono HB.out.size)); clear hp hb1)
    obtain ⟨AP, cP, rfl⟩ := HPT.out.shape
    rw [← HLL.out]
    have n0 := HN.out.cell (k := 0) rfl
    have HX := Lib.hid (HX.out.below HB.out)
    go_upto_region 9 with (go_at_call 61; refine (HCF.out _ HX.out n0).mono ?_; rintro e w2 ⟨rfl, hb1⟩; have HK2 := Lib.hid (HK2.out.below hb1); have HB := Lib.hid (HB.out.trans (hb1.mono HB.out.size)); clear hb1)
    obtain ⟨⟨c0, f0, c1, f1, c2, f2, c3, f3⟩, hk2⟩ := (HK2.out).put4 (.int .i64 0) (.int .i64 0) (.int .i64 0) (.slice none 0 0)
    have q0 := hk2.cell (k := 0) rfl
    have q1 := hk2.cell (k := 1) rfl
    have q2 := hk2.cell (k := 2) rfl
    have q3 := hk2.cell (k := 3) rfl
    clear hk2
    go_wp2_with fail
    exact bodyPost_ret (v := .tuple #[.agg #[.int .i64 0, .int .i64 0, .int .i64 0, .slice none 0 0], .int .i64 8]) (by simp [results, Try.results37, go_sem, q0, q1, q2, q3]) rfl (show SysPost w _ _ _ _ from by rw [HD.out, HE.out]; exact ⟨_, rfl, SysD.none_owned _ _, below_put4 HB.out (by omega) _ _ _ _⟩)
  have t2 : decide ((64 : Int) < (M : Int)) = false := decide_eq_false (by omega)
  have t2' : decide (64 < M) = false := decide_eq_false hov
  have hE : crE N f' r m f = 0 := by rw [hE2, if_neg hov]
  have HE := Lib.hid hE
  have HD := Lib.hid (show crD N f' r m f = ⟨N, 2 * N, (r : Int) + 1, crP N r f pts m 0⟩ by unfold crD; rw [if_pos hE, Int.toNat_natCast, Int.toNat_natCast, HPL.out])
  have HLL := Lib.hid eL
  have HM64 := Lib.hid (show m * L ≤ 64 by omega)
  have hw2 : IntKind.i64.wrap (2 * (N : Int)) = 2 * (N : Int) := by rw [IntKind.wrap_i64]; omega
  have hw3 : IntKind.i64.wrap ((r : Int) + 1) = (r : Int) + 1 := by rw [IntKind.wrap_i64]; omega
  have HFL := Lib.hid (fun X Ar cr rd tv W (h : CrS W Ar N rd tv) (hX : X < 2 ^ N) htv => flood_any N r X Ar cr rd tv W h h2 h4 h3 hX htv)
  clear hE hm0 HE1 hall hE2 eM hov eL
  go_enter Try.func37, Try.ntmps37
  go_upto_region 1 with (fail)
  rw [← HW.out]
  clear HW
  go_upto_region 6 with (go_at_call 34; refine (HP.out _).mono ?_; rintro e w1 ⟨pv, rfl, hp, hb1⟩; have HPT := Lib.hid hp; have HK2 := Lib.hid (HK2.out.below hb1); have HN := Lib.hid (HN.out.below hb1); have HB := Lib.hid (HB.out.trans (hb1.mono HB.out.size)); clear hp hb1)
  obtain ⟨AP, cP, rfl⟩ := HPT.out.shape
  rw [← HLL.out]
  have n0 := HN.out.cell (k := 0) rfl
  have HX1 := Lib.hid (HX.out.below HB.out)
  have hn1 := HN.out.lt
  have h2l := HK2.out.lt
  go_upto_region 10 with (go_at_call 61; refine (HCF.out _ HX1.out n0).mono ?_; rintro e w2 ⟨rfl, hb1⟩; have HK2 := Lib.hid (HK2.out.below hb1); have HN := Lib.hid (HN.out.below hb1); have HPT := Lib.hid (HPT.out.below hb1); have n0 := cell_below hb1 n0; have HBX := Lib.hid (HB.out.trans (hb1.mono HB.out.size)); have hs2 := hb1.size; clear hb1)
  go_upto_region 11 with (fail)
  have hB3 := below_alloc w2 (.cells #[.int .i64 N, .int .i64 (2 * (N : Int)), .int .i64 ((r : Int) + 1), .slice none 0 0] 44)
  have hS := Blk.new w2 #[.int .i64 N, .int .i64 (2 * (N : Int)), .int .i64 ((r : Int) + 1), .slice none 0 0] 44
  have hI0 : SyI w (w2.alloc (.cells #[.int .i64 N, .int .i64 (2 * (N : Int)), .int .i64 ((r : Int) + 1), .slice none 0 0] 44)) (some w.heap.size) (w.heap.size + 1) w2.heap.size N N (2 * (N : Int)) ((r : Int) + 1) (.slice AP pts.length cP) (.slice none 0 0) pts (crP N r f pts 0 0) :=
    ⟨HBX.out.trans (hB3.mono HBX.out.size), HK2.out.below hB3, fun b e => by injection e with e; subst e; exact HN.out.below hB3, hS, by omega, ⟨by omega, by omega⟩, by rw [crP_zero]; exact RunsO.nil _ _, (HPT.out.mono hsW).below hB3⟩
  rw [← HLL.out] at hI0
  have HI := Lib.hid hI0
  generalize w2.alloc (.cells #[.int .i64 N, .int .i64 (2 * (N : Int)), .int .i64 ((r : Int) + 1), .slice none 0 0] 44) = V at HI ⊢
  obtain ⟨bS, ebS⟩ : ∃ b, b = w2.heap.size := ⟨_, rfl⟩
  rw [← ebS] at HI ⊢
  clear ebS hI0 hS hB3 HBX HK2 HPT HN n0 hn1 h2l hs2 HX1 hw2 hw3 hwr hmul t1 t2 t2' HCF HP
  go_wp2_with fail
  go_loopw [51] (fun iv wr => ∃ i : Nat, i ≤ m ∧ iv = .int .i64 i ∧ ∃ vR, SyI w wr (some w.heap.size) (w.heap.size + 1) bS N N (2 * (N : Int)) ((r : Int) + 1) (.slice AP L cP) vR pts (crP N r f pts i 0)) (fun iv _ => m - (intOf iv).toNat)
  case atStart => exact ⟨0, Nat.zero_le _, rfl, _, HI.out⟩
  case round =>
    clear HI
    obtain ⟨i, hi, rfl, vR, hI⟩ := hrel
    by_cases hlt : i < m
    · obtain ⟨b0, off, rfl, cx, hx1, hx2⟩ := HX.out.below hI.below i hlt
      have hbad : badX N (f i) = false := by
        have := allB_iff.1 HAL.out i hlt
        simpa using this
      obtain ⟨hp0, hpN⟩ := badX_no hbad
      obtain ⟨X, eX⟩ : ∃ X : Nat, f i = X := ⟨(f i).toNat, by omega⟩
      rw [eX] at cx
      have HXN := Lib.hid (show X < 2 ^ N by rw [eX, Int.toNat_natCast] at hpN; exact hpN)
      have HGX := Lib.hid (fun l => (show gD N r (f i) l = floD N r X (rdP l) (tvP l) by unfold gD; rw [eX, Int.toNat_natCast]))
      have HI := Lib.hid hI
      have hii : (i : Int) < (m : Int) := by omega
      clear hI hbad hp0 hpN eX hx1 hx2
      go_wp2_with fail
      go_loopw [57] (fun kv wr => ∃ k : Nat, k ≤ L ∧ kv = .int .i64 k ∧ ∃ vR, SyI w wr (some w.heap.size) (w.heap.size + 1) bS N N (2 * (N : Int)) ((r : Int) + 1) (.slice AP L cP) vR pts (crP N r f pts i k)) (fun kv _ => L - (intOf kv).toNat)
      case atStart => exact ⟨0, Nat.zero_le _, rfl, _, HI.out⟩
      case round =>
        clear HI
        obtain ⟨k, hk, rfl, vR, hI⟩ := hrel
        by_cases hlk : k < L
        · obtain ⟨l, hl⟩ : ∃ l, pts[k]? = some l := ⟨_, List.getElem?_eq_getElem (by rw [← HLL.out]; exact hlk)⟩
          obtain ⟨hll, hpo⟩ := HPM.out l (List.mem_of_getElem? hl)
          have HST := Lib.hid (crP_step (N := N) (r := r) (f := f) (i := i) hl)
          obtain ⟨gP, cP', rv, eP, cl0, hrow⟩ := hI.pats.at hl
          injection eP with eP1 eP2 eP3
          subst eP1
          obtain ⟨Ar, cr, rfl, hcs, htv⟩ := crS_of hrow hll hpo h4 h3
          have HCS := Lib.hid hcs
          have HTV := Lib.hid htv
          have hkk : (k : Int) < (L : Int) := by omega
          have hcnt : (crP N r f pts i k).length ≤ 64 := by
            rw [crP_len (by rw [← HLL.out]; exact hk), ← HLL.out]
            have h1 : (i + 1) * L ≤ m * L := Nat.mul_le_mul_right L hlt
            rw [Nat.succ_mul] at h1
            have := HM64.out
            omega
          obtain ⟨rows1, ho1, hr1⟩ := hI.runs
          obtain ⟨AR, cR, rfl, -⟩ := own_form' ho1
          obtain ⟨q, eq⟩ : ∃ q, q = (crP N r f pts i k).length := ⟨_, rfl⟩
          rw [← eq] at hI ho1 hcnt
          have EQ := Lib.hid eq
          have HI1 := Lib.hid hI
          have s3 := hI.hS.cell (k := 3) rfl
          have n0 := (hI.hN _ rfl).cell (k := 0) rfl
          have hsz := hI.below.size
          clear hl hll hpo hrow hcs htv eP2 eP3 hI ho1 hr1 eq
          go_upto_region 17 with (fail)
          go_region_law (first
            | (go_simp; go_at_call 44; refine (HFL.out X Ar cr (rdP l) (tvP l) _ (by exact HCS.out) HXN.out HTV.out).mono ?_; rintro e w4 ⟨v4, rfl, hrun, hb1⟩; obtain ⟨AL, cAL, AF, cAF, rfl⟩ := RunO.shape (show RunO w4 _ v4 (r + 1) _ _ (r + 1) _ from hrun); have HB4 : Hid (Below wr.heap.size wr w4) := Lib.hid ⟨hb1.os, hb1.tape, hb1.output, hb1.size, hb1.block⟩; have s3 := cell_below HB4.out s3; have s4 := cell_below (below_alloc w4 (.cells #[.slice AL (r + 1) cAL, .slice AF (r + 1) cAF] 30)) s3; have HI4 := Lib.hid (HI1.out.keep HB4.out); have HRU := Lib.hid (RunO.mono hrun (show w.heap.size ≤ wr.heap.size from hsz)); have hs4 := HI4.out.below.size; obtain ⟨rows4, ho4, hr4⟩ := HI4.out.runs; rw [← EQ.out] at ho4; have HO4 := Lib.hid ho4; have HR4 := Lib.hid hr4; clear hrun hb1 ho4 hr4)
            | (obtain ⟨i0, hi, hz0, hz1, hz2⟩ := info_parts Try.infoRun; refine step_append_lies _ (by rfl) _ _ _ (by rfl) w.heap.size 30 i0 _ 2 48 Try.underlying42 hi hz0 hz1 hz2 rfl (by decide) (.slice AR q cR) q rows4 (by rfl) (own_alloc' HO4.out _) ⟨w4.heap.size, 0, none⟩ 1 1 [.slice AL (r + 1) cAL, .slice AF (r + 1) cAF] (by rfl) (by rfl) (World.news_of_block (cs := #[.slice AL (r + 1) cAL, .slice AF (r + 1) cAF]) (t := 30) (fr := (0, 0)) (heap_alloc_new w4 _)) (by simp [Value.oneCell']) (by decide) (by unfold maxLen; omega) (by omega) (by simp; omega) (w4.heap.size + 1) (by simp) ?_; intro gf capF w7 hown7 hgrow7 _ _; have HG7 : Hid ((w4.alloc (.cells #[.slice AL (r + 1) cAL, .slice AF (r + 1) cAF] 30)).grownBy w7 (Value.slice AR q cR).ownBlock) := Lib.hid ⟨hgrow7.os, hgrow7.tape, hgrow7.output, hgrow7.size, hgrow7.block⟩; obtain ⟨q3, f3⟩ := HI4.out.box HO4.out HG7.out; have HOW7 := Lib.hid hown7; clear hi hz0 hz1 hz2 hown7 hgrow7))
          all_goals (
            go_wp2_with fail
            go_roundw
            case rel => exact ⟨k + 1, by omega, by go_num, _, by
              rw [HST.out]
              exact HI4.out.grow (d := gD N r (f i) l) (by rw [← EQ.out]; exact HO4.out) HR4.out (by rw [HGX.out]; exact HRU.out) (by rw [← EQ.out]; exact HOW7.out) HG7.out⟩
            case measure => simp [intOf]; omega)
        · obtain rfl : k = L := by omega
          have HI1 := Lib.hid (show SyI w wr (some w.heap.size) (w.heap.size + 1) bS N N (2 * (N : Int)) ((r : Int) + 1) (.slice AP k cP) vR pts (crP N r f pts (i + 1) 0) by rw [← crP_row, ← HLL.out]; exact hI)
          clear hI
          go_wp2_with fail
          go_roundw
          case rel => exact ⟨i + 1, by omega, by go_num, _, HI1.out⟩
          case measure => simp [intOf]; omega
    · obtain rfl : i = m := by omega
      obtain ⟨rows, ho, -⟩ := hI.runs
      obtain ⟨AR, cR, rfl, -⟩ := own_form' ho
      obtain ⟨q, eq⟩ : ∃ q, q = (crP N r f pts i 0).length := ⟨_, rfl⟩
      have hI2 := hI
      rw [← eq] at hI2
      have d0 := hI2.hS.cell (k := 0) rfl
      have d1 := hI2.hS.cell (k := 1) rfl
      have d2 := hI2.hS.cell (k := 2) rfl
      have d3 := hI2.hS.cell (k := 3) rfl
      obtain ⟨⟨c0, f0, c1, f1, c2, f2, c3, f3⟩, hk2⟩ := hI2.h2.put4 (.int .i64 N) (.int .i64 (2 * (N : Int))) (.int .i64 ((r : Int) + 1)) (.slice AR q cR)
      have q0 := hk2.cell (k := 0) rfl
      have q1 := hk2.cell (k := 1) rfl
      have q2 := hk2.cell (k := 2) rfl
      have q3 := hk2.cell (k := 3) rfl
      have HB3 := Lib.hid hI.below
      have HRU := Lib.hid (hI2.runs.keeps (Keeps.put4 hI2.h2 (by decide) (.int .i64 N) (.int .i64 (2 * (N : Int))) (.int .i64 ((r : Int) + 1)) (.slice AR q cR)) (Keeps.put4 hI2.h2 (by decide) _ _ _ _) (Keeps.put4 hI2.h2 (by decide) _ _ _ _) (Keeps.put4 hI2.h2 (by decide) _ _ _ _))
      have hii : ¬ (i : Int) < (i : Int) := by omega
      clear hI hI2 hk2 ho eq
      go_wp2_with fail
      exact bodyPost_ret (v := .tuple #[.agg #[.int .i64 N, .int .i64 (2 * (N : Int)), .int .i64 ((r : Int) + 1), .slice AR q cR], .int .i64 0]) (by simp [results, Try.results37, go_sem, q0, q1, q2, q3]) rfl (show SysPost w _ _ _ _ from by rw [HD.out, HE.out]; exact ⟨_, rfl, ⟨_, rfl, HRU.out⟩, below_put4 HB3.out (by omega) _ _ _ _⟩)
end Go.Proofs.Ytgnkeecjaffnaaa
