/-
  Walks of layer 54: Patterns of the program.
-/
import Derived.Test.YtgnkeecjaffnaaaProg
import Derived.Test.YtgnkeecjaffnaaaBase
import Derived.Test.YtgnkeecjaffnaaaRow
import Derived.Test.YtgnkeecjaffnaaaRowsOf
import Derived.Test.YtgnkeecjaffnaaaPc
import Derived.Test.YtgnkeecjaffnaaaPd
import Derived.Test.YtgnkeecjaffnaaaPrH
import Derived.Test.YtgnkeecjaffnaaaPrI
import Derived.Test.YtgnkeecjaffnaaaPtP
import Derived.Test.YtgnkeecjaffnaaaPtQ
import Derived.Test.YtgnkeecjaffnaaaPtA
import Derived.Laws.EntriesVeiled
namespace Go.Proofs.Ytgnkeecjaffnaaa
open Go.RowKit

/-- The patterns, at most 65 of them. -/
def patR (n R F : Nat) : List (List (Nat × Nat)) := pT n R n F [] []
def patOkB (n F R : Int) : Bool := decide ((2 ≤ n ∧ n ≤ 4 ∧ 0 ≤ R ∧ R ≤ 3) ∧ 0 ≤ F ∧ F ≤ n)
def patE (n F R : Int) : Nat := if patOkB n F R then (if 64 < (patR n.toNat R.toNat F.toNat).length then 8 else 0) else 2
def patL (n F R : Int) : List (List (Nat × Nat)) := if patE n F R = 0 then patR n.toNat R.toNat F.toNat else []
/-- What a function leaves that returns patterns and an error. -/
def PtsPost (w : World) (ps : List (List (Nat × Nat))) (E : Nat) (e : Ending) (w' : World) : Prop := ∃ v, e = .returned (.tuple #[v, .int .i64 E]) ∧ PatsO w' w.heap.size v ps ∧ Below w.heap.size w w'
set_option maxHeartbeats 2000000 in
set_option maxRecDepth 100000 in
theorem Patterns_any (n F R : Int) (w : World) :
    Calls Try.prog 34 #[.int .i64 n, .int .i64 F, .int .i64 R] w (PtsPost w (patL n F R) (patE n F R)) := by
  obtain ⟨W, hW⟩ : ∃ W, W = (w.alloc (.cells #[.int .i64 n] 3)).alloc (.cells #[.int .i64 R] 3) := ⟨_, rfl⟩
  obtain ⟨hN, hR, hB⟩ := two_boxes4 w _ _ _ _ W hW
  have HSZ := Lib.hid (fun w => sizes_any n R w)
  have HN := Lib.hid hN
  have HR := Lib.hid hR
  have HB := Lib.hid hB
  have HW := Lib.hid hW
  have n0 := hN.cell (k := 0) rfl
  have r0 := hR.cell (k := 0) rfl
  clear hN hR hB hW
  by_cases hs : 2 ≤ n ∧ n ≤ 4 ∧ 0 ≤ R ∧ R ≤ 3
  case neg =>
    have hE : patE n F R = 2 := by unfold patE patOkB; rw [decide_eq_false (fun h => hs h.1)]; rfl
    have HE := Lib.hid hE
    have HD := Lib.hid (show patL n F R = [] by unfold patL; rw [hE]; rfl)
    rw [show szB n R = false from decide_eq_false hs] at HSZ
    clear hE hs
    go_enter Try.func34, Try.ntmps34
    go_upto_region 1 with (fail)
    rw [← HW.out]
    go_wp2_with (go_at_call 43; refine (HSZ.out _).mono ?_; rintro e w' ⟨rfl, rfl⟩)
    go_ret2
    rw [HE.out, HD.out]
    exact ⟨_, rfl, PatsO.nil _ _, HB.out⟩
  rw [show szB n R = true from decide_eq_true hs] at HSZ
  by_cases hF0 : F < 0
  · have t1 : decide (F < 0) = true := decide_eq_true hF0
    have hE : patE n F R = 2 := by unfold patE patOkB; rw [decide_eq_false (by omega)]; rfl
    have HE := Lib.hid hE
    have HD := Lib.hid (show patL n F R = [] by unfold patL; rw [hE]; rfl)
    clear hE hs hF0
    go_enter Try.func34, Try.ntmps34
    go_upto_region 1 with (fail)
    rw [← HW.out]
    go_wp2_with (go_at_call 43; refine (HSZ.out _).mono ?_; rintro e w' ⟨rfl, rfl⟩)
    go_ret2
    rw [HE.out, HD.out]
    exact ⟨_, rfl, PatsO.nil _ _, HB.out⟩
  have t1 : decide (F < 0) = false := decide_eq_false hF0
  by_cases hFn : n < F
  · have t2 : decide (n < F) = true := decide_eq_true hFn
    have hE : patE n F R = 2 := by unfold patE patOkB; rw [decide_eq_false (by omega)]; rfl
    have HE := Lib.hid hE
    have HD := Lib.hid (show patL n F R = [] by unfold patL; rw [hE]; rfl)
    clear hE hs hF0 hFn
    go_enter Try.func34, Try.ntmps34
    go_upto_region 1 with (fail)
    rw [← HW.out]
    go_wp2_with (go_at_call 43; refine (HSZ.out _).mono ?_; rintro e w' ⟨rfl, rfl⟩)
    go_ret2
    rw [HE.out, HD.out]
    exact ⟨_, rfl, PatsO.nil _ _, HB.out⟩
  have t2 : decide (n < F) = false := decide_eq_false hFn
  obtain ⟨N, rfl⟩ : ∃ N : Nat, n = N := ⟨n.toNat, by omega⟩
  obtain ⟨r, rfl⟩ : ∃ r : Nat, R = r := ⟨R.toNat, by omega⟩
  obtain ⟨f, rfl⟩ : ∃ f : Nat, F = f := ⟨F.toNat, by omega⟩
  have t2' : decide (N < f) = false := decide_eq_false (by omega)
  have hN4 : N ≤ 4 := by omega
  have hr3 : r ≤ 3 := by omega
  have hf4 : f ≤ 4 := by omega
  obtain ⟨ps, eps⟩ : ∃ ps, ps = patR N r f := ⟨_, rfl⟩
  have hle : ps.length ≤ 65 := by rw [eps]; exact pT_le _ _ _ _ _ _
  have hE : patE N f r = if 64 < ps.length then 8 else 0 := by
    unfold patE patOkB; rw [decide_eq_true ⟨hs, by omega⟩, eps]; rfl
  have hD : patL N f r = if 64 < ps.length then [] else ps := by
    unfold patL; rw [hE]
    by_cases h : 64 < ps.length
    · rw [if_pos h, if_pos h]; rfl
    · rw [if_neg h, if_neg h, if_pos rfl, eps]; rfl
  have HE := Lib.hid hE
  have HD := Lib.hid hD
  clear hE hD hs hF0 hFn
  go_enter Try.func34, Try.ntmps34
  go_upto_region 1 with (fail)
  rw [← HW.out]
  go_upto_region 5 with (go_at_call 43; refine (HSZ.out _).mono ?_; rintro e w' ⟨rfl, rfl⟩)
  obtain ⟨V, hV⟩ : ∃ V, V = (W.alloc (.cells #[.slice none 0 0] 55)).alloc (.cells #[.nilFunc] 81) := ⟨_, rfl⟩
  rw [← hV]
  obtain ⟨hO, hF, hBV⟩ := two_boxes4 W _ _ _ _ V hV
  have c0 : V.cell? ⟨W.heap.size + 1, 0, none⟩ = some .nilFunc := hF.cell (k := 0) rfl
  have f0 := hF.frozen (k := 0)
  obtain ⟨fv, efv⟩ : ∃ fv, fv = Value.func (.func 57) #[] #[.pointer (some ⟨W.heap.size, 0, none⟩), .pointer (some ⟨w.heap.size, 0, none⟩), .pointer (some ⟨W.heap.size + 1, 0, none⟩), .pointer (some ⟨w.heap.size + 1, 0, none⟩)] := ⟨_, rfl⟩
  have hN1 := HN.out.below hBV
  have hR1 := HR.out.below hBV
  have hI0 : PatI W (V.setCell ⟨W.heap.size + 1, 0, none⟩ fv) W.heap.size w.heap.size (W.heap.size + 1) (w.heap.size + 1) N r fv (.slice none 0 0) [] :=
    ⟨hBV.setCell (p := ⟨W.heap.size + 1, 0, none⟩) (by show W.heap.size ≤ W.heap.size + 1; omega) _, hO.set_ne (hO.ne hF (by decide)) _ _, hN1.set_ne (hN1.ne hF (by decide)) _ _, hR1.set_ne (hR1.ne hF (by decide)) _ _, hF.set 0 fv, Nat.le_refl _, PatsO.nil _ _⟩
  have HL := Lib.hid (pat_any W W.heap.size w.heap.size (W.heap.size + 1) (w.heap.size + 1) N r fv efv hN4 hr3 N f [] (.slice none 0 0) [] _ _ (by simp) hf4 (Nat.zero_le _) (World.ownsRow_nil _ _ _ _) hI0)
  have z0 : (V.setCell ⟨W.heap.size + 1, 0, none⟩ fv).cell? ⟨W.heap.size + 1, 0, none⟩ = some fv := hI0.hF.cell (k := 0) rfl
  clear hO hF hBV hV n0 r0 hI0 hN1 hR1 HW
  go_upto_region 6 with (fail)
  rw [← efv]
  generalize V.setCell ⟨W.heap.size + 1, 0, none⟩ fv = V0 at HL z0 ⊢
  subst efv
  clear c0 f0
  go_upto_region 7 with (go_at_call 57; refine HL.out.mono ?_; rintro e w2 ⟨rfl, ⟨vO, hI⟩, -⟩; have HI := Lib.hid hI; clear hI)
  have hI := HI.out
  rw [show pT N r N f [] [] = ps from eps.symm] at hI
  obtain ⟨rows, ho, -⟩ := hI.pats
  obtain ⟨AO, cO, rfl, -⟩ := own_form ho
  have d0 : w2.cell? ⟨W.heap.size, 0, none⟩ = some (.slice AO ps.length cO) := hI.hO.cell (k := 0) rfl
  have HB2 := Lib.hid (HB.out.trans (hI.below.mono HB.out.size))
  have HP := Lib.hid (hI.pats.mono HB.out.size)
  clear ho eps hI HI HL
  by_cases h64 : 64 < ps.length
  · have t3 : decide ((64 : Int) < (ps.length : Int)) = true := decide_eq_true (by omega)
    have t3' : decide (64 < ps.length) = true := decide_eq_true h64
    rw [if_pos h64] at HE HD
    clear h64
    go_wp2_with fail
    go_ret2
    rw [HE.out, HD.out]
    exact ⟨_, rfl, PatsO.nil _ _, HB2.out⟩
  · have t3 : decide ((64 : Int) < (ps.length : Int)) = false := decide_eq_false (by omega)
    have t3' : decide (64 < ps.length) = false := decide_eq_false h64
    rw [if_neg h64] at HE HD
    clear h64
    go_wp2_with fail
    go_ret2
    rw [HE.out, HD.out]
    exact ⟨_, rfl, HP.out, HB2.out⟩
end Go.Proofs.Ytgnkeecjaffnaaa
