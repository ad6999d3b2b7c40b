/-
  Walks of layer 54: the examples (awake).
-/
import Derived.Test.YtgnkeecjaffnaaaProg
import Derived.Test.YtgnkeecjaffnaaaBase
import Derived.Test.YtgnkeecjaffnaaaRow
import Derived.Test.YtgnkeecjaffnaaaRowsOf
import Derived.Test.YtgnkeecjaffnaaaPc
import Derived.Test.YtgnkeecjaffnaaaPd
import Derived.Test.YtgnkeecjaffnaaaPrP
import Derived.Test.YtgnkeecjaffnaaaPrA
import Derived.Test.YtgnkeecjaffnaaaPrB
import Derived.Test.YtgnkeecjaffnaaaPrC
import Derived.Test.YtgnkeecjaffnaaaPrE
import Derived.Test.YtgnkeecjaffnaaaPrG
import Derived.Test.YtgnkeecjaffnaaaPrI
import Derived.Test.YtgnkeecjaffnaaaPrN
import Derived.Test.YtgnkeecjaffnaaaPfA
import Derived.Test.YtgnkeecjaffnaaaPfB
import Derived.Test.YtgnkeecjaffnaaaPfC
import Derived.Test.YtgnkeecjaffnaaaPtB
import Derived.Deep.DeepCutAuto
namespace Go.Proofs.Ytgnkeecjaffnaaa
open Go.RowKit

def exA (k : Nat) : Int := if k = 0 then 0 else 1
def exH (k : Nat) : Int := if k = 0 then 5 else 17
def exM (_ : Nat) : Int := 1
theorem example_any (w : World) : Calls Try.prog 42 #[] w fun e w' => ∃ A c, e = .returned (.agg #[.int .i64 2, .slice A 2 c]) ∧ RuleS w' A 2 exA exH exM ∧ Below w.heap.size w w' := by
  have hbe : w.heap.size ≠ w.heap.size + 1 := by omega
  have h0 := Blk.new w #[.int .i64 0, .slice none 0 0] 41
  obtain ⟨W, hW⟩ : ∃ W, W = w.alloc (.cells #[.int .i64 0, .slice none 0 0] 41) := ⟨_, rfl⟩
  have hb := below_alloc w (.cells #[.int .i64 0, .slice none 0 0] 41)
  rw [← hW] at h0 hb
  go_enter Try.func42, Try.ntmps42
  go_upto_region 1 with (fail)
  rw [← hW]
  clear hW
  have hs := Blk.new W #[.int .i64 0, .int .i64 5, .int .i64 1, .int .i64 1, .int .i64 17, .int .i64 1] 79
  have hb2 := below_alloc W (.cells #[.int .i64 0, .int .i64 5, .int .i64 1, .int .i64 1, .int .i64 17, .int .i64 1] 79)
  have h1 := h0.below hb2
  obtain ⟨⟨c0, f0, c1, f1⟩, hk2⟩ := h1.put2 (.int .i64 2) (.slice (some ⟨W.heap.size, 0, none⟩) 2 2)
  have c0 : (W.alloc (.cells #[.int .i64 0, .int .i64 5, .int .i64 1, .int .i64 1, .int .i64 17, .int .i64 1] 79)).cell? ⟨w.heap.size, 0, none⟩ = some (.int .i64 0) := c0
  have q0 := hk2.cell (k := 0) rfl
  have q1 := hk2.cell (k := 1) rfl
  go_wp2_with fail
  have hsk := (hs.set_ne (hs.ne h1 (by decide)) 0 (.int .i64 2))
  have hsk2 := hsk.set_ne (hs.ne h1 (by decide)) 1 (.slice (some ⟨W.heap.size, 0, none⟩) 2 2)
  refine bodyPost_ret (v := .agg #[.int .i64 2, .slice (some ⟨W.heap.size, 0, none⟩) 2 2]) (by simp [results, Try.results42, go_sem, q0, q1]) rfl ⟨_, _, rfl, fun k hk => ⟨W.heap.size, 0, rfl, ?_⟩, below_put2 (hb.trans (hb2.mono hb.size)) (Nat.le_refl _) _ _⟩
  have h01 : k = 0 ∨ k = 1 := by omega
  rcases h01 with rfl | rfl
  · exact ⟨hsk2.cell rfl, hsk2.cell rfl, hsk2.cell rfl, by decide, by decide, by decide⟩
  · exact ⟨hsk2.cell rfl, hsk2.cell rfl, hsk2.cell rfl, by decide, by decide, by decide⟩
/-! ### runs that are written out -/
def litL (ls : List (Int × Int)) (i j : Nat) : Int := if j = 0 then (ls.getD i (0, 0)).1 else (ls.getD i (0, 0)).2
def litF (fs : List Nat) (k : Nat) : Nat := fs.getD k 0
theorem run_lit {w : World} {n bL bF : Nat} (B : Nat → Nat) (L : Nat → Nat → Int) (F : Nat → Nat) (xs ys : Array Value) (hrow : ∀ i, i < n → Blk w (B i) 3 #[.int .i64 (L i 0), .int .i64 (L i 1)]) (hL : Blk w bL 38 xs) (hxs : ∀ i, i < n → xs[i]? = some (.slice (some ⟨B i, 0, none⟩) 2 2))
    (hF : Blk w bF 64 ys) (hys : ∀ k, k < n → ys[k]? = some (.int .u64 (F k))) (hb : ∀ i, i < n → (-9223372036854775808 ≤ L i 0 ∧ L i 0 ≤ 9223372036854775807) ∧ (-9223372036854775808 ≤ L i 1 ∧ L i 1 ≤ 9223372036854775807)) (hf : ∀ k, k < n → F k < 18446744073709551616) :
    RunR w (.agg #[.slice (some ⟨bL, 0, none⟩) n n, .slice (some ⟨bF, 0, none⟩) n n]) n (fun _ => 2) L n F := by
  refine ⟨_, _, _, _, fun i => some ⟨B i, 0, none⟩, fun _ => 2, rfl, fun i hi => ⟨bL, 0, rfl, ?_, by show 2 ≤ _; decide, fun j hj => ⟨B i, 0, rfl, ?_⟩⟩, fun k hk => ⟨bF, 0, rfl, ?_, hf k hk⟩⟩
  · rw [Nat.zero_add]; exact hL.cell (hxs i hi)
  · have hj : j < 2 := hj
    have h01 : j = 0 ∨ j = 1 := by omega
    rcases h01 with rfl | rfl
    · exact ⟨(hrow i hi).cell rfl, (hb i hi).1⟩
    · exact ⟨(hrow i hi).cell rfl, (hb i hi).2⟩
  · rw [Nat.zero_add]; exact hF.cell (hys k hk)
theorem ex_E : losE 2 2 exA exH exM = 0 := by decide +kernel
theorem ex_ps : losRs (sndV 2 exA exH exM) 2 = [(0, [0, 0]), (1, [0, 0]), (1, [0, 2]), (1, [1, 0])] := by decide +kernel
theorem ex_L : ∀ t, t < 3 → ∀ i, i < 2 → runL (sndV 2 exA exH exM) 1 (lf [0, 2]) t i = litL [(5, 4), (20, 17), (80, 68)] t i := by decide +kernel
theorem ex_D : losD 2 2 exA exH exM = ⟨2, 1, 3, [(0, [0, 0]), (1, [0, 0]), (1, [0, 2]), (1, [1, 0])].map (mkR (sndV 2 exA exH exM))⟩ := by
  unfold losD; rw [if_pos ex_E, show ((2 : Int)).toNat = 2 from rfl, ex_ps]; rfl
/-- What the first example leaves. -/
theorem ex_lossy (w : World) (A : Option Addr) (c : Nat) (h : RuleS w A 2 exA exH exM) : Calls Try.prog 23 #[.agg #[.int .i64 2, .slice A 2 c]] w fun e w' => ∃ b cR u v, e = .returned (.tuple #[.agg #[.int .i64 2, .int .i64 1, .int .i64 3, .slice (some ⟨b, 0, none⟩) 4 cR], .int .i64 0]) ∧
    w'.cell? ⟨b, 4, none⟩ = some u ∧ w'.cell? ⟨b, 5, none⟩ = some v ∧ RunR w' (.agg #[u, v]) 3 (fun _ => 2) (runL (sndV 2 exA exH exM) 1 (lf [0, 2])) 3 (fun _ => 1) ∧ Below w.heap.size w w' := by
  have h1 := Lossy_any 2 A 2 c exA exH exM w h (by decide)
  rw [ex_E, ex_D] at h1
  refine h1.mono ?_
  rintro e w' ⟨x, rfl, ⟨vR, rfl, rows, ho, hr⟩, hb⟩
  obtain ⟨AR, cR, rfl, hc⟩ := own_form' ho
  obtain ⟨u, v, e1, e2, hd⟩ := hr 2 _ rfl
  obtain ⟨b, rfl, -, -, hc4⟩ := hc 4 (by decide)
  obtain ⟨b', hbb, -, -, hc5⟩ := hc 5 (by decide)
  injection hbb with hbb
  injection hbb with hbb _ _
  subst hbb
  refine ⟨b, cR, u, v, rfl, hc4.trans e1, hc5.trans e2, RunO.read hd (fun _ _ => by decide) (fun i j _ _ => runL_range _ _ _ _ _) (fun _ _ => by decide), hb⟩
theorem Try.makeCr (w : World) : (Instr.makeSlice 26 (.int .i64 2) (.int .i64 2)).run Try.prog w = .ok (.slice (some ⟨w.heap.size, 0, none⟩) 2 2) (w.alloc (.cells #[.int .i64 0, .int .i64 0, .int .i64 0, .int .i64 0] 37)) := by
  obtain ⟨i0, hi, hz0, hz1, hz2⟩ := info_parts Try.infoCrash
  have := run_make (P := Try.prog) w 26 37 i0 _ Try.underlying26 hi hz0 .i64 .i64 2 2 (by decide) (by decide) (by rw [hz2]; decide) (by decide)
  rw [hz1] at this
  have e : madeCells (Value.agg #[Value.int IntKind.i64 0, Value.int IntKind.i64 0]).cells (Int.toNat 2 * 2) = #[.int .i64 0, .int .i64 0, .int .i64 0, .int .i64 0] := by first | rfl | kernel_rfl | simp [madeCells, Value.cells]
  rw [e] at this
  exact this
theorem RunR.alloc {w : World} {v : Value} {n k : Nat} {m : Nat → Nat} {L : Nat → Nat → Int} {F : Nat → Nat} (h : RunR w v n m L k F) (o : Obj) : RunR (w.alloc o) v n m L k F := h.below (below_alloc w o)
theorem four_blocks (w : World) (x0 x1 x2 x3 : Array Value) (T0 T1 T2 T3 : TypeId) (W : World) (hW : W = (((w.alloc (.cells x0 T0)).alloc (.cells x1 T1)).alloc (.cells x2 T2)).alloc (.cells x3 T3)) :
    Blk W w.heap.size T0 x0 ∧ Blk W (w.heap.size + 1) T1 x1 ∧ Blk W (w.heap.size + 1 + 1) T2 x2 ∧ Blk W (w.heap.size + 1 + 1 + 1) T3 x3 ∧ Below w.heap.size w W := by
  subst hW
  have k0 := Blk.new w x0 T0
  have k1 := Blk.new (w.alloc (.cells x0 T0)) x1 T1
  have k2 := Blk.new ((w.alloc (.cells x0 T0)).alloc (.cells x1 T1)) x2 T2
  have k3 := Blk.new (((w.alloc (.cells x0 T0)).alloc (.cells x1 T1)).alloc (.cells x2 T2)) x3 T3
  have hb := (((below_alloc w (.cells x0 T0)).alloc (by simp) (.cells x1 T1)).alloc (by simp; omega) (.cells x2 T2)).alloc (by simp; omega) (.cells x3 T3)
  simp only [World.size_alloc] at k1 k2 k3
  exact ⟨((k0.alloc _).alloc _).alloc _, (k1.alloc _).alloc _, k2.alloc _, k3, hb⟩
def exR (k : Nat) : Int := if k = 0 then 1 else 0
theorem ex_F0 : flE 2 1 1 2 (fun _ => 0) (fun _ => 0) = 0 := by decide +kernel
theorem ex_F1 : flE 2 1 1 2 exR (fun _ => 0) = 0 := by decide +kernel
theorem ex_FL0 : ∀ t, t < 2 → ∀ i, i < 2 → (stN (fun _ => 0) (fun _ => 0) 2 1 t i : Int) = litL [(3, 4), (15, 15)] t i := by decide +kernel
theorem ex_FL1 : ∀ t, t < 2 → ∀ i, i < 2 → (stN exR (fun _ => 0) 2 1 t i : Int) = litL [(3, 4), (0, 13)] t i := by decide +kernel
theorem ex_FF0 : ∀ t, t < 2 → fcN (fun _ => 0) 2 1 t 2 = litF [13, 13] t := by decide +kernel
theorem ex_FF1 : ∀ t, t < 2 → fcN exR 2 1 t 2 = litF [13, 9] t := by decide +kernel
theorem ex_flood (rd : Nat → Int) (h0 : flE 2 1 1 2 rd (fun _ => 0) = 0) (w : World) (A : Option Addr) (c : Nat) (h : CrS w A 2 rd (fun _ => 0)) : Calls Try.prog 18 #[.int .i64 2, .int .i64 1, .int .i64 1, .slice A 2 c] w fun e w' =>
    ∃ AL cL AF cF, e = .returned (.tuple #[.agg #[.slice AL 2 cL, .slice AF 2 cF], .int .i64 0]) ∧ RunR w' (.agg #[.slice AL 2 cL, .slice AF 2 cF]) 2 (fun _ => 2) (fun t i => (stN rd (fun _ => 0) 2 1 t i : Int)) 2 (fun t => fcN rd 2 1 t 2) ∧ Below w.heap.size w w' := by
  have h1 := Flood_any 2 1 1 A 2 c rd (fun _ => 0) w h (by decide)
  have hD : fluD 2 1 1 2 rd (fun _ => 0) = floD 2 1 1 rd (fun _ => 0) := by unfold fluD; rw [if_pos h0]; rfl
  rw [h0, hD] at h1
  refine h1.mono ?_
  rintro e w' ⟨x, rfl, hd, hb⟩
  obtain ⟨AL, cL, AF, cF, rfl⟩ := RunO.shape hd
  refine ⟨AL, cL, AF, cF, rfl, RunO.read hd (fun _ _ => by show 2 ≤ _; decide) (fun t i ht _ => ?_) (fun t _ => ?_), hb⟩
  · have ht : t < 2 := ht
    have := stN_le (rd := rd) (tv := fun _ => 0) (n := 2) (x := 1) (t := t) (i := i) (by decide) (by omega)
    show _ ≤ ((stN rd (fun _ => 0) 2 1 t i : Nat) : Int) ∧ ((stN rd (fun _ => 0) 2 1 t i : Nat) : Int) ≤ _
    omega
  · have := fcN_lt (rd := rd) (n := 2) (x := 1) (t := t) (by decide) 2 (Nat.le_refl _)
    show fcN rd 2 1 t 2 < _
    have e : (2 : Nat) ^ (2 + 2) = 16 := rfl
    omega
theorem ex_P : patE 2 1 1 = 0 ∧ (patL 2 1 1).length = 5 := by decide +kernel
theorem ex_patterns (w : World) : Calls Try.prog 34 #[.int .i64 2, .int .i64 1, .int .i64 1] w fun e w' => ∃ A c, e = .returned (.tuple #[.slice A 5 c, .int .i64 0]) ∧ Below w.heap.size w w' := by
  have h1 := Patterns_any 2 1 1 w
  rw [ex_P.1] at h1
  refine h1.mono ?_
  rintro e w' ⟨v, rfl, ⟨rows, ho, -⟩, hb⟩
  rw [ex_P.2] at ho
  obtain ⟨A, c, rfl, -⟩ := own_form ho
  exact ⟨A, c, rfl, hb⟩
theorem ex_clean : clV 1 (fun _ => 0) 2 = 1 := by decide +kernel
theorem crS_zero {w : World} {b : Nat} (h : Blk w b 37 #[.int .i64 0, .int .i64 0, .int .i64 0, .int .i64 0]) : CrS w (some ⟨b, 0, none⟩) 2 (fun _ => 0) (fun _ => 0) := fun k hk => by
  have h01 : k = 0 ∨ k = 1 := by omega
  rcases h01 with rfl | rfl
  · exact ⟨b, 0, rfl, h.cell rfl, h.cell rfl, by decide, by decide⟩
  · exact ⟨b, 0, rfl, h.cell rfl, h.cell rfl, by decide, by decide⟩
theorem crS_one {w : World} {b : Nat} (h : Blk w b 37 #[.int .i64 1, .int .i64 0, .int .i64 0, .int .i64 0]) : CrS w (some ⟨b, 0, none⟩) 2 exR (fun _ => 0) := fun k hk => by
  have h01 : k = 0 ∨ k = 1 := by omega
  rcases h01 with rfl | rfl
  · exact ⟨b, 0, rfl, h.cell rfl, h.cell rfl, by decide, by decide⟩
  · exact ⟨b, 0, rfl, h.cell rfl, h.cell rfl, by decide, by decide⟩
end Go.Proofs.Ytgnkeecjaffnaaa
