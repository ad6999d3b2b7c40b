/-
  Texts of this claim, one after the other: what each proves is said at its head. No condition beyond those that its theorems name.
-/
import Derived.Test.YtahaimecchdfeaaProg
import Derived.Deep.DeepCutAuto
import Derived.Deep.RegionHeld3
import Derived.RangeFuncNested
import Derived.RangeFuncBound
import Derived.RangeFuncCalls
import Derived.RangeFuncLeaves
import Derived.Shelf.Abstract
import Derived.Shelf.RegionOpen
import Derived.WalkKit
import Derived.OwnWalkIn
import Derived.TacticsInMore
import Derived.LoopNIn
import Derived.LoopIn
import Derived.BigRegionIn
import Derived.Sort.QuietIn
import Derived.Sort.CutIn
import Derived.Deep.RegionLaw
import Derived.Maps.AppendAt
import Derived.Test.YtahaimecchdfeaaH01
import Derived.Test.YtahaimecchdfeaaH02
import Derived.Test.YtahaimecchdfeaaH03
import Derived.Test.YtahaimecchdfeaaH09
import Derived.Test.YtahaimecchdfeaaH12
import Derived.Test.YtahaimecchdfeaaH15
import Derived.Test.YtahaimecchdfeaaH19

/-
  Walks of package attack: index.
-/
namespace Go.Proofs.Ytahaimecchdfeaa
open Go.RowKit

set_option maxHeartbeats 2000000 in
theorem aindex_any (x y : Int) (w : World) (bx bM a l n c : Nat) (f : Int) (A : Option Addr) (T : Nat → Nat) (m : Nat → Nat → Nat) (L : Nat → Nat → Nat → Int) (K : Nat → Nat) (F : Nat → Nat → Nat) (vP : Value) (hs : SpV w bx bM a l n f A c T m L K F vP) :
    Calls Try.prog 58 #[.pointer (some ⟨bx, 0, none⟩), .agg #[.int .i64 x, .int .i64 y]] w fun e w' => e = .returned (.int .i64 (ixP (ptL n l) x y)) ∧ Below w.heap.size w w' := by
  obtain ⟨ha, -, hl, hn64, h512, -, hfr, -⟩ := chkE_ok hs.chk
  have hpl : (ptL n l).length ≤ 65536 := by
    rw [ptL_len]
    exact Nat.le_trans (Nat.mul_le_mul hn64 (show l ≤ 16 by omega)) (by decide)
  obtain ⟨base, hp⟩ := hs.pts
  have HB := Lib.hid (below_alloc w (.cells #[.int .i64 x, .int .i64 y] 26))
  have HK := Lib.hid (Blk.new w #[.int .i64 x, .int .i64 y] 26)
  have HS := Lib.hid (hs.box.below HB.out)
  have HP := Lib.hid (hp.below HB.out)
  obtain ⟨pts, epts⟩ : ∃ q, q = ptL n l := ⟨_, rfl⟩
  rw [← epts] at HP hpl ⊢
  clear hs hp ha hl h512 hfr hn64 epts
  go_enter Try.func58, Try.ntmps58
  go_upto_region 1 with (fail)
  generalize w.alloc (.cells #[.int .i64 x, .int .i64 y] 26) = W at HB HK HS HP ⊢
  obtain ⟨bs, ebs⟩ : ∃ b, b = w.heap.size := ⟨_, rfl⟩
  rw [← ebs] at HK ⊢
  clear ebs
  have d0 := HK.out.cell (k := 0) rfl
  have d1 := HK.out.cell (k := 1) rfl
  have b4 := HS.out.cell (k := 4) rfl
  have HI := Lib.hid (fun X (hX : Below W.heap.size W X) => index_any pts x y X base vP (HP.out.below hX) hpl)
  have HSOF := Lib.hid (fun (z : World) (h : Below W.heap.size W z) => (⟨h, cell_below h d0, cell_below h d1, cell_below h b4⟩ : Below W.heap.size W z ∧ z.cell? ⟨bs, 0, none⟩ = some (.int .i64 x) ∧ z.cell? ⟨bs, 1, none⟩ = some (.int .i64 y) ∧ z.cell? ⟨bx, 4, none⟩ = some vP))
  have hb0 := Below.refl W.heap.size W
  have tok1 : True := trivial
  clear d0 d1 b4
  go_region_held3 (fun z => Below W.heap.size W z ∧ z.cell? ⟨bs, 0, none⟩ = some (.int .i64 x) ∧ z.cell? ⟨bs, 1, none⟩ = some (.int .i64 y) ∧ z.cell? ⟨bx, 4, none⟩ = some vP) (first | exact HSOF.out _ (by assumption) | exact HSOF.out _ (below_drew hb0) | exact HSOF.out _ (below_trans (And.left (by assumption)) (by assumption)))
    ((go_at_call 83; refine (HI.out _ (And.left (by assumption))).mono ?_; rintro e w7 ⟨rfl, hb1⟩; have HB7 := below_trans (And.left (by assumption)) hb1; clear hb1))
  go_wp2_with fail
  go_ret
  exact ⟨rfl, HB.out.trans (HB7.mono HB.out.size)⟩
end Go.Proofs.Ytahaimecchdfeaa

/-
  Walks of package attack: enter.
-/
namespace Go.Proofs.Ytahaimecchdfeaa
open Go.RowKit

/-- The error of a point of a system. -/
def entE (a f l : Int) (n : Nat) (T : Nat → Nat) (m : Nat → Nat → Nat) (K : Nat → Nat) (F : Nat → Nat → Nat) (r t : Int) : Nat :=
  if chkE a f l n T m K F = 0 then (if inP n l.toNat r t then 0 else 2) else chkE a f l n T m K F
/-- A space that a call has made of a system. -/
def SpaceOf (w : World) (x : Value) (a f l : Int) (n : Nat) (T : Nat → Nat) (m : Nat → Nat → Nat) (L : Nat → Nat → Nat → Int) (K : Nat → Nat) (F : Nat → Nat → Nat) (bx : Nat) : Prop :=
  ∃ a' l' A c bM vP, a = (a' : Nat) ∧ l = (l' : Nat) ∧ x = .agg #[.int .i64 a, .int .i64 f, .int .i64 l, .slice A n c] ∧ SpV w bx bM a' l' n f A c T m L K F vP
theorem SpaceOf.below {w w' : World} {x : Value} {a f l : Int} {n : Nat} {T : Nat → Nat} {m : Nat → Nat → Nat} {L : Nat → Nat → Nat → Int} {K : Nat → Nat} {F : Nat → Nat → Nat} {bx : Nat} (h : SpaceOf w x a f l n T m L K F bx) (hb : Below w.heap.size w w') : SpaceOf w' x a f l n T m L K F bx := by
  obtain ⟨a', l', A, c, bM, vP, e1, e2, e3, h⟩ := h
  exact ⟨a', l', A, c, bM, vP, e1, e2, e3, h.below hb⟩
theorem openS_any (x : Value) (a f l : Int) (n : Nat) (T : Nat → Nat) (m : Nat → Nat → Nat) (L : Nat → Nat → Nat → Int) (K : Nat → Nat) (F : Nat → Nat → Nat) (w : World) (h : SysR w x a f l n T m L K F) (hn : n ≤ 65536) (hE : chkE a f l n T m K F = 0) :
    Calls Try.prog 57 #[x] w fun e w' => ∃ bx, e = .returned (.pointer (some ⟨bx, 0, none⟩)) ∧ SpaceOf w' x a f l n T m L K F bx ∧ Below w.heap.size w w' := by
  have HH := Lib.hid h
  refine (open_any x a f l n T m L K F w h hn hE).mono ?_
  rintro e w' ⟨A, c, bx, bM, vP, rfl, rfl, hs⟩
  obtain ⟨ha, -, hl, -, -, -, -, -⟩ := chkE_ok hE
  obtain ⟨l', rfl⟩ : ∃ N : Nat, l = N := ⟨l.toNat, by omega⟩
  obtain ⟨a', rfl⟩ : ∃ N : Nat, a = N := ⟨a.toNat, by omega⟩
  obtain ⟨A', c', e1, hR⟩ := HH.out
  have e2 : A = A' ∧ c = c' := by simpa using e1
  obtain ⟨rfl, rfl⟩ := e2
  obtain ⟨D, hsm⟩ := hs.same
  exact ⟨bx, rfl, ⟨a', l', A, c, bM, vP, rfl, rfl, rfl, ⟨hR.below hs.below, hE, hs.box, ⟨_, hs.pts⟩, ⟨_, _, D, hsm⟩⟩⟩, hs.below⟩
theorem SpaceOf.index {w : World} {x : Value} {a f l : Int} {n : Nat} {T : Nat → Nat} {m : Nat → Nat → Nat} {L : Nat → Nat → Nat → Int} {K : Nat → Nat} {F : Nat → Nat → Nat} {bx : Nat} (h : SpaceOf w x a f l n T m L K F bx) (r t : Int) :
    Calls Try.prog 58 #[.pointer (some ⟨bx, 0, none⟩), .agg #[.int .i64 r, .int .i64 t]] w fun e w' => e = .returned (.int .i64 (ixP (ptL n l.toNat) r t)) ∧ Below w.heap.size w w' := by
  obtain ⟨a', l', A, c, bM, vP, rfl, rfl, -, h⟩ := h
  rw [Int.toNat_natCast]
  exact aindex_any r t w bx bM a' l' n c f A T m L K F vP h
/-- What enter leaves. -/
def EnPost (w : World) (x : Value) (a f l : Int) (n : Nat) (T : Nat → Nat) (m : Nat → Nat → Nat) (L : Nat → Nat → Nat → Int) (K : Nat → Nat) (F : Nat → Nat → Nat) (r t : Int) (e : Ending) (w' : World) : Prop :=
  ∃ p i, e = .returned (.tuple #[.pointer p, .int .i64 i, .int .i64 (entE a f l n T m K F r t : Nat)]) ∧ Below w.heap.size w w' ∧ (entE a f l n T m K F r t = 0 → i = ((r.toNat * l.toNat + t.toNat : Nat) : Int) ∧ inP n l.toNat r t ∧ chkE a f l n T m K F = 0 ∧ ∃ bx, p = some ⟨bx, 0, none⟩ ∧ SpaceOf w' x a f l n T m L K F bx)
set_option maxHeartbeats 2000000 in
theorem enter_any (x : Value) (a f l : Int) (n : Nat) (T : Nat → Nat) (m : Nat → Nat → Nat) (L : Nat → Nat → Nat → Int) (K : Nat → Nat) (F : Nat → Nat → Nat) (r t : Int) (w : World) (h : SysR w x a f l n T m L K F) (hn : n ≤ 65536) :
    Calls Try.prog 41 #[x, .agg #[.int .i64 r, .int .i64 t]] w (EnPost w x a f l n T m L K F r t) := by
  have HCK := Lib.hid (fun W (h : SysR W x a f l n T m L K F) => rCheckS_any x a f l n T m L K F W h hn)
  have HOP := Lib.hid (fun W (h : SysR W x a f l n T m L K F) => openS_any x a f l n T m L K F W h hn)
  have HS := Lib.hid h
  obtain ⟨A, c, rfl, hR⟩ := h
  obtain ⟨W, hW⟩ : ∃ W, W = (w.alloc (.cells #[.int .i64 a, .int .i64 f, .int .i64 l, .slice A n c] 24)).alloc (.cells #[.int .i64 r, .int .i64 t] 26) := ⟨_, rfl⟩
  obtain ⟨k0, k1, hB⟩ := two_boxes4 w _ _ _ _ W hW
  have HB := Lib.hid hB
  have HK0 := Lib.hid k0
  have HK1 := Lib.hid k1
  have HSW : Hid (SysR W (.agg #[.int .i64 a, .int .i64 f, .int .i64 l, .slice A n c]) a f l n T m L K F) := Lib.hid ⟨A, c, rfl, hR.below hB⟩
  have HW := Lib.hid hW
  clear hR hW k0 k1 hB
  obtain ⟨E, eE⟩ : ∃ E, E = chkE a f l n T m K F := ⟨_, rfl⟩
  rw [← eE] at HCK HOP
  have EE := Lib.hid eE
  clear eE
  go_enter Try.func41, Try.ntmps41
  go_upto_region 1 with (fail)
  rw [← HW.out]
  have d0 := HK0.out.cell (k := 0) rfl
  have d1 := HK0.out.cell (k := 1) rfl
  have d2 := HK0.out.cell (k := 2) rfl
  have d3 := HK0.out.cell (k := 3) rfl
  go_upto_region 2 with (go_at_call 73; refine (HCK.out _ HSW.out).mono ?_; rintro e w1 ⟨rfl, hb1⟩; have HK0 := Lib.hid (HK0.out.below hb1); have HK1 := Lib.hid (HK1.out.below hb1); have HB := Lib.hid (below_trans HB.out hb1); have HSW : Hid (SysR w1 (.agg #[.int .i64 a, .int .i64 f, .int .i64 l, .slice A n c]) a f l n T m L K F) := Lib.hid (by obtain ⟨A', c', e, hr⟩ := HSW.out; exact ⟨A', c', e, hr.below hb1⟩); clear hb1)
  clear d0 d1 d2 d3
  by_cases hE : E = 0
  case neg =>
    have t1 : ((E : Int) != 0) = true := by rw [bne_iff_ne]; omega
    have HE := Lib.hid (show entE a f l n T m K F r t = E by unfold entE; rw [← EE.out, if_neg hE])
    go_wp2_with fail
    go_ret3
    exact ⟨none, 0, by rw [HE.out]; rfl, HB.out, fun h => absurd (by rw [← HE.out]; exact h) hE⟩
  subst hE
  have hop := HOP.out _ HSW.out rfl
  have d0 := HK0.out.cell (k := 0) rfl
  have d1 := HK0.out.cell (k := 1) rfl
  have d2 := HK0.out.cell (k := 2) rfl
  have d3 := HK0.out.cell (k := 3) rfl
  have HOW := Lib.hid hop
  clear hop HOP HCK
  go_upto_region 5 with (go_at_call 57; refine HOW.out.mono ?_; rintro e w2 ⟨bx, rfl, hsp, hb1⟩; have HK1 := Lib.hid (HK1.out.below hb1); have HB := Lib.hid (below_trans HB.out hb1); have HSP := Lib.hid hsp; clear hb1 hsp)
  clear d0 d1 d2 d3
  have p0 := HK1.out.cell (k := 0) rfl
  have p1 := HK1.out.cell (k := 1) rfl
  have HIX := Lib.hid (HSP.out.index r t)
  obtain ⟨X, eX⟩ : ∃ X, X = ixP (ptL n l.toNat) r t := ⟨_, rfl⟩
  rw [← eX] at HIX
  have EX := Lib.hid eX
  clear eX
  go_upto_region 6 with (go_at_call 58; refine HIX.out.mono ?_; rintro e w3 ⟨rfl, hb1⟩; have HB := Lib.hid (below_trans HB.out hb1); have HSP := Lib.hid (HSP.out.below hb1); clear hb1)
  clear p0 p1 HIX
  by_cases hin : inP n l.toNat r t
  · have HE := Lib.hid (show entE a f l n T m K F r t = 0 by unfold entE; rw [← EE.out, if_pos rfl, if_pos hin])
    obtain ⟨i, ei⟩ : ∃ i, i = r.toNat * l.toNat + t.toNat := ⟨_, rfl⟩
    have hX : X = (i : Int) := by rw [EX.out, ixP_in hin, ei]
    subst hX
    have hi0 : ¬ ((i : Int) < 0) := by omega
    have HI := Lib.hid ei
    have HIN := Lib.hid hin
    clear ei hin
    go_wp2_with fail
    go_ret3
    exact ⟨_, _, by rw [HE.out]; rfl, HB.out, fun _ => ⟨by rw [HI.out], HIN.out, EE.out.symm, bx, rfl, HSP.out⟩⟩
  · have HE := Lib.hid (show entE a f l n T m K F r t = 2 by unfold entE; rw [← EE.out, if_pos rfl, if_neg hin])
    have hX : X = -1 := by rw [EX.out, ixP_out hin]
    subst hX
    clear hin
    go_wp2_with fail
    go_ret3
    exact ⟨none, 0, by rw [HE.out]; rfl, HB.out, fun h => by rw [HE.out] at h; cases h⟩
end Go.Proofs.Ytahaimecchdfeaa

/-
  Walks of package attack: holds.
-/
namespace Go.Proofs.Ytahaimecchdfeaa
open Go.RowKit

/-- A fact at a point. -/
def facB2 (F : Nat → Nat → Nat) (p : Nat × Nat) (k : Nat) : Bool := (F p.1 p.2).testBit k
set_option maxHeartbeats 2000000 in
theorem holds_any (i fc : Nat) (w : World) (bx bM a l n c : Nat) (f : Int) (A : Option Addr) (T : Nat → Nat) (m : Nat → Nat → Nat) (L : Nat → Nat → Nat → Int) (K : Nat → Nat) (F : Nat → Nat → Nat) (vP : Value) (hs : SpV w bx bM a l n f A c T m L K F vP) (p : Nat × Nat) (hp : (ptL n l)[i]? = some p) (hfc : fc ≤ 8) :
    Calls Try.prog 49 #[.pointer (some ⟨bx, 0, none⟩), .int .i64 i, .int .i64 fc] w fun e w' => e = .returned (.bool (facB2 F p fc)) ∧ Below w.heap.size w w' := by
  obtain ⟨ha, -, hl, hn64, h512, -, hfr, -⟩ := chkE_ok hs.chk
  obtain ⟨hp1, hp2⟩ := ptL_mem.1 (List.mem_of_getElem? hp)
  obtain ⟨base, hpts⟩ := hs.pts
  obtain ⟨gp, kp, rfl, c1, c2⟩ := pnO_at hpts hp
  have hi := (List.getElem?_eq_some_iff.1 hp).1
  obtain ⟨NP, eNP⟩ : ∃ q, q = (ptL n l).length := ⟨_, rfl⟩
  rw [← eNP] at hi
  have hii : (i : Int) < (NP : Int) := by omega
  obtain ⟨g4, o4, rfl⟩ : ∃ g o, A = some ⟨g, o, none⟩ := by
    obtain ⟨g, o, _, _, e, -⟩ := hs.sys 0 (by omega)
    exact ⟨g, o, e⟩
  obtain ⟨r, er⟩ : ∃ r, r = p.1 := ⟨_, rfl⟩
  obtain ⟨t, et⟩ : ∃ r, r = p.2 := ⟨_, rfl⟩
  rw [← er] at c1 hp1
  rw [← et] at c2 hp2
  have hE : facB2 F p fc = (F r t).testBit fc := by unfold facB2; rw [← er, ← et]
  rw [hE]
  obtain ⟨Ax, cx, Bx, dx, y0, y1, -, hU⟩ := runs_at hs.sys hp1
  have htK : t < K r := by have := (hfr r hp1).2.1; omega
  obtain ⟨gb, gf, rfl, f0, hf0⟩ := hU t htK
  obtain ⟨Z, eZ⟩ : ∃ Z, Z = F r t := ⟨_, rfl⟩
  rw [← eZ] at f0 hf0 ⊢
  obtain ⟨TX, eTX⟩ : ∃ q, q = T r := ⟨_, rfl⟩
  obtain ⟨KX, eKX⟩ : ∃ q, q = K r := ⟨_, rfl⟩
  rw [← eTX] at y0
  rw [← eKX] at y1 htK
  have htK1 : (t : Int) < (KX : Int) := by omega
  have hr1 : (r : Int) < (n : Int) := by omega
  have b3 := hs.box.cell (k := 3) rfl
  have b4 : w.cell? ⟨bx, 4, none⟩ = some (.slice (some ⟨gp, 0, none⟩) NP kp) := by rw [eNP]; exact hs.box.cell (k := 4) rfl
  clear hs hpts hU hfr ha hl h512 hp er et eZ eTX eKX eNP hE
  go_enter Try.func49, Try.ntmps49
  go_upto_region 2 with (fail)
  have hba := below_alloc w (.cells #[.int .i64 r, .int .i64 t] 26)
  have hbk := Blk.new w #[.int .i64 r, .int .i64 t] 26
  have b3 := cell_below hba b3
  have y1 := cell_below hba y1
  have y0 := cell_below hba y0
  have f0 := cell_below hba f0
  have q0 := hbk.cell (k := 0) rfl
  have q1 := hbk.cell (k := 1) rfl
  have HB := Lib.hid hba
  generalize w.alloc (.cells #[.int .i64 r, .int .i64 t] 26) = W at b3 y0 y1 f0 q0 q1 HB ⊢
  obtain ⟨bp, ebp⟩ : ∃ b, b = w.heap.size := ⟨_, rfl⟩
  rw [← ebp] at q0 q1 ⊢
  clear hba hbk ebp c1 c2 b4
  have hbit : (bits .and .u64 ((Z : Int) / 2 ^ fc) 1 == 1) = Z.testBit fc := by
    have h := bits_has Z fc hf0
    rw [Nat.min_eq_left (by omega)] at h
    exact h
  have HBT := Lib.hid hbit
  clear hbit
  go_quiet (fail)
  go_wp2_with fail
  go_ret
  exact ⟨congrArg (fun b => Ending.returned (Value.bool b)) HBT.out, below_drewN HB.out _⟩
end Go.Proofs.Ytahaimecchdfeaa

/-
  Walks of package attack: the iterator's contract, as its callers take it; index, holds.
-/
namespace Go.Proofs.Ytahaimecchdfeaa
open Go.RowKit Go.Shelf

/-- The number of a point. -/
abbrev PtI (N : Nat) := { x : Nat // x < N }
def PtI.nums {N : Nat} (l : List (PtI N)) : List Nat := l.map Subtype.val
theorem PtI.nums_snoc {N : Nat} (l : List (PtI N)) (x : PtI N) : PtI.nums (l ++ [x]) = PtI.nums l ++ [x.1] := by unfold PtI.nums; rw [List.map_append]; rfl
theorem alkL_lt' {a : Nat} {L : Nat → Nat → Nat → Int} {pts : List (Nat × Nat)} {i k : Nat} (h : k ∈ alkL a L pts i) : k < pts.length := by
  unfold alkL idA at h
  simp only [List.mem_flatMap, List.mem_range, List.mem_filter] at h
  obtain ⟨_, _, h, _⟩ := h
  exact h
theorem alike_stops (N : Nat) (hN : 1 ≤ N) (Bx Bi B1 B2 i bx bM a l n c : Nat) (f : Int) (A : Option Addr) (T : Nat → Nat) (m : Nat → Nat → Nat) (L : Nat → Nat → Nat → Int) (K : Nat → Nat) (F : Nat → Nat → Nat) (vP : Value) (w0 w : World) (M : Nat) (hM : M = (ptL n l).length)
    (hs : SpV w0 bx bM a l n f A c T m L K F vP) (hi : i < (ptL n l).length) (hB1 : B1 ≤ Bx ∧ Bx < B2) (hB2 : B1 ≤ Bi ∧ Bi < B2) (hb : Below w0.heap.size w0 w) (hx : Blk w Bx 72 #[.pointer (some ⟨bx, 0, none⟩)]) (hi2 : Blk w Bi 3 #[.int .i64 i]) :
    SeqStopsK Fence.wide N Try.prog 82 #[.pointer (some ⟨Bx, 0, none⟩), .pointer (some ⟨Bi, 0, none⟩)] (fun x : PtI M => #[Value.int .i64 (x.1 : Nat)]) (KpA w0.heap.size B1 B2) (fun ys => PtI.nums ys = alkL a L (ptL n l) i) (fun pre => PtI.nums pre <+: alkL a L (ptL n l) i) (alkL a L (ptL n l) i).length w := fun ly J Jx W hW hJ hJx hY h0 => by
  subst hM
  refine (alike1_in N hN ly Bx Bi B1 B2 i bx bM a l n c f A T m L K F vP w0 hs hi hB1 hB2 (fun pre W => ∃ p, PtI.nums p = pre ∧ J p W) (fun pre W => ∃ p, PtI.nums p = pre ∧ Jx p W) W ?_ ?_ (below_trans hb hW) (hx.below hW) (hi2.below hW) ⟨[], rfl, h0⟩).mono ?_
  · rintro s X Y row ⟨p, e, h⟩ hg hr
    exact ⟨p, e, hJ p X Y row h hg hr⟩
  · rintro pre x W1 ⟨p, rfl, h⟩ hpre
    have hx : x < (ptL n l).length := alkL_lt' (hpre.subset (by simp))
    have hlen : p.length < (alkL a L (ptL n l) i).length := by
      have := hpre.length_le
      unfold PtI.nums at this
      simp at this
      omega
    refine YieldAt.mono (hY p ⟨x, hx⟩ W1 h hlen) ?_
    rintro e W' (⟨h1, h2, h3⟩ | ⟨h1, h2⟩)
    · exact .inl ⟨h1, ⟨p ++ [⟨x, hx⟩], PtI.nums_snoc _ _, h2⟩, h3⟩
    · exact .inr ⟨h1, p ++ [⟨x, hx⟩], PtI.nums_snoc _ _, h2⟩
  · rintro e W' ⟨h1, h2⟩
    refine ⟨h1, ?_⟩
    rcases h2 with ⟨ys, rfl, p, e1, h⟩ | ⟨pre, h3, p, rfl, h⟩
    · exact .inl ⟨p, e1, h⟩
    · exact .inr ⟨p, h3, h⟩
end Go.Proofs.Ytahaimecchdfeaa

/-
  Walks of package attack: next.
-/
namespace Go.Proofs.Ytahaimecchdfeaa
open Go.RowKit Go.Shelf
attribute [local go_sem] Oper.semAt_some

set_option maxHeartbeats 8000000 in
set_option maxRecDepth 100000 in
theorem next_any (i k : Nat) (w : World) (bx bM a l n c : Nat) (f : Int) (A : Option Addr) (T : Nat → Nat) (m : Nat → Nat → Nat) (L : Nat → Nat → Nat → Int) (K : Nat → Nat) (F : Nat → Nat → Nat) (vP : Value) (hs : SpV w bx bM a l n f A c T m L K F vP) (hi : i < (ptL n l).length) :
    Calls Try.prog 60 #[.pointer (some ⟨bx, 0, none⟩), .int .i64 i, .int .i64 k] w fun e w' => e = .returned (.bool (decide (k ∈ alkL a L (ptL n l) i))) ∧ Below w.heap.size w w' := by
  have HSV := Lib.hid hs
  clear hs
  refine (callsIn_wide (n := 8)).1 ?_
  refine callsIn_of_wp_marks Try.func60 rfl trivial ?_ rfl
  simp only [Try.ntmps60, List.size_toArray, List.length_cons, List.length_nil, Nat.reduceAdd, Nat.reduceSub, Array.replicate_succ, Array.replicate_zero, List.push_toArray, List.append_toArray, List.nil_append, List.cons_append]
  gi_wp2_with (refine ⟨trivial, ?_⟩; gi_at_call 54; refine (callsIn_wide.2 (alike_any _ _ _)).mono ?_; rintro e w' ⟨rfl, rfl⟩)
  obtain ⟨V, hV⟩ : ∃ V, V = (w.alloc (.cells #[.int .i64 k] 3)).alloc (.cells #[.bool false] 4) := ⟨_, rfl⟩
  obtain ⟨hk0, hr0, hb0, hs0⟩ := two_allocs w _ _ _ _ V hV
  rw [← hV]
  obtain ⟨W0, hW0⟩ : ∃ W0, W0 = (V.alloc (.cells #[.pointer (some ⟨bx, 0, none⟩)] 72)).alloc (.cells #[.int .i64 i] 3) := ⟨_, rfl⟩
  obtain ⟨hx1, hi1, hb1, hs1⟩ := two_allocs V _ _ _ _ W0 hW0
  rw [hs0] at hx1 hi1 hs1
  rw [← hW0]
  clear hW0 hV
  have hk1 := hk0.below hb1
  have hr1 := hr0.below hb1
  have hbw := below_trans hb0 hb1
  obtain ⟨bs, ebs⟩ : ∃ b, b = w.heap.size := ⟨_, rfl⟩
  rw [← ebs] at hk1 hr1 hx1 hi1 hs1 ⊢
  have EBS := Lib.hid ebs
  have hbz := hbw.size
  have HBZ := Lib.hid hbz
  clear hk0 hr0 hb0 hs0 hb1 ebs
  refine wpIn_rangeFunc_ownH rfl (by omega) (gf := 82) (lb := #[.pointer (some ⟨bs + 1 + 1, 0, none⟩), .pointer (some ⟨bs + 1 + 1 + 1, 0, none⟩)]) rfl trivial (enters_of Try.func82 (by kernel_rfl) rfl)
    (alike_stops 7 (by omega) (bs + 1 + 1) (bs + 1 + 1 + 1) (bs + 2) (bs + 4) i bx bM a l n c f A T m L K F vP w W0 _ rfl HSV.out hi (by omega) (by omega) hbw hx1 hi1) (fun h k => h.trans k) (KpA.put hbz (by omega)) (Below.refl _ _) (fun _ => rfl)
    (fun pre W => ((∀ x ∈ PtI.nums pre, x ≠ k) ∧ Blk W bs 3 #[.int .i64 k] ∧ Blk W (bs + 1) 4 #[.bool false]) ∧ Below w.heap.size w W)
    (fun cd pre W => ((cd = .ret ∧ k ∈ PtI.nums pre) ∧ Blk W (bs + 1) 4 #[.bool true]) ∧ Below w.heap.size w W)
    (OwnFrom.and (ownFrom_cells fun _ _ _ hk h => ⟨h.1, h.2.1.keepRow hk, h.2.2.keepRow hk⟩) (ownFrom_below (Nat.le_refl _) hbz))
    (fun cd => OwnFrom.and (ownFrom_cells fun _ _ _ hk h => ⟨h.1, h.2.keepRow hk⟩) (ownFrom_below (Nat.le_refl _) hbz))
    ⟨⟨by simp [PtI.nums], hk1, hr1⟩, hbw⟩
    (fun x a' _ => a' = { tmps := #[.pointer (some ⟨bx, 0, none⟩), .int .i64 i, .int .i64 k, undef, undef, .pointer (some ⟨bs, 0, none⟩), .pointer (some ⟨bs + 1, 0, none⟩), .int .i64 (x.1 : Nat), .pointer (some ⟨bx, 0, none⟩), .int .i64 i, .func (.func 82) #[] #[.pointer (some ⟨bs + 1 + 1, 0, none⟩), .pointer (some ⟨bs + 1 + 1 + 1, 0, none⟩)], .int .i64 (x.1 : Nat), undef, undef, undef], defers := [] })
    (fun _ _ _ _ _ _ hs _ _ => hs) ?assign ?body ?done ?stop
  case assign =>
    rintro l2 pre ⟨x, hx⟩ W Kx hI hK
    gi_wp2
    exact hK _ _ (KeepsFrom.refl _ _) ⟨Below.refl _ _, fun _ _ _ => rfl⟩ hI rfl
  case body =>
    rintro l2 pre ⟨x, hx⟩ a' W hl2 - ⟨⟨hp, hkk, hrr⟩, hbW⟩ rfl hlt
    have k0 := hkk.cell (k := 0) rfl
    have r0 := hrr.cell (k := 0) rfl
    have fr := hrr.frozen (k := 0)
    have HBW := Lib.hid hbW
    have HKK := Lib.hid hkk
    have HRR := Lib.hid hrr
    have HP := Lib.hid hp
    by_cases hxk : x = k
    · subst hxk
      clear hbW hkk hrr hp
      gi_wp2
      exact ⟨(KeepsOthers.setCell _ _ _).from _, ⟨⟨rfl, by rw [PtI.nums_snoc]; simp⟩, HRR.out.set 0 _⟩, HBW.out.setCell (p := ⟨bs + 1, 0, none⟩) (by rw [EBS.out]; exact Nat.le_succ _) _⟩
    · have hxe : ((x : Int) == (k : Int)) = false := by rw [beq_eq_false_iff_ne]; omega
      clear hbW hkk hrr hp
      gi_wp2
      exact ⟨KeepsFrom.refl _ _, ⟨Below.refl _ _, fun _ _ _ => rfl⟩, ⟨fun z hz => (List.mem_append.1 (by rw [PtI.nums_snoc] at hz; exact hz)).elim (HP.out z) (fun e => by rw [List.mem_singleton] at e; rw [e]; exact hxk), HKK.out, HRR.out⟩, HBW.out⟩
  case done =>
    rintro D ys W hD hys ⟨⟨hp, hkk, hrr⟩, hbW⟩ hDk
    have r0 := hrr.cell (k := 0) rfl
    have fr := hrr.frozen (k := 0)
    have HBW := Lib.hid hbW
    have HRR := Lib.hid hrr
    have HV := Lib.hid (show decide (k ∈ alkL a L (ptL n l) i) = false from decide_eq_false fun h => hp k (by rw [hys]; exact h) rfl)
    have HDK := Lib.hid hDk
    clear hbW hkk hrr hp hDk hys
    gi_wp2
    change LeavesInM _ _ _ _ _ _ _ _ _
    have hb2 := HBW.out.setCell (p := ⟨bs + 1, 0, none⟩) (by rw [EBS.out]; exact Nat.le_succ _) (.bool false)
    refine leaves_marks (B := w.heap.size) _ _ (Marks.push trivial (Nat.le_refl _) (Nat.le_trans HBZ.out hD) ((KeepsOthers.setCell _ _ _).same D _ HDK.out rfl) (by simp)) fun w2 hb3 hk3 => ?_
    have r1 := ((HRR.out.set 0 (.bool false)).keepRow hk3).cell (k := 0) rfl
    exact ⟨.bool false, by simp [results, Try.results60, go_sem, r1], by rw [HV.out], hb2.trans hb3⟩
  case stop =>
    rintro D cd pre W hD hpre ⟨⟨⟨rfl, hin⟩, hrr⟩, hbW⟩ hDk
    have HBW := Lib.hid hbW
    have HRR := Lib.hid hrr
    have HV := Lib.hid (show decide (k ∈ alkL a L (ptL n l) i) = true from decide_eq_true (hpre.subset hin))
    have HDK := Lib.hid hDk
    clear hbW hrr hin hDk
    gi_wp2
    change LeavesInM _ _ _ _ _ _ _ _ _
    refine leaves_marks (B := w.heap.size) _ _ (Marks.push trivial (Nat.le_refl _) (Nat.le_trans HBZ.out hD) HDK.out (by simp)) fun w2 hb3 hk3 => ?_
    have r1 := (HRR.out.keepRow hk3).cell (k := 0) rfl
    exact ⟨.bool true, by simp [results, Try.results60, go_sem, r1], by rw [HV.out], HBW.out.trans hb3⟩
end Go.Proofs.Ytahaimecchdfeaa

/-
  Walks: the reference's point, fact and alike, of a system that is read.
-/
namespace Go.Proofs.Ytahaimecchdfeaa
open Go.RowKit

theorem rshr_bit (Z k : Nat) : (((Z : Int) / 2 ^ k).tmod 2 == 1) = Z.testBit k := by
  have e : ((Z : Int) / 2 ^ k) = ((Z / 2 ^ k : Nat) : Int) := by rw [Int.natCast_ediv, Int.natCast_pow]; rfl
  rw [e, Nat.testBit_eq_decide_div_mod_eq]
  generalize Z / 2 ^ k = q
  show (((q % 2 : Nat) : Int) == 1) = _
  rw [Bool.eq_iff_iff, beq_iff_eq, decide_eq_true_eq]
  omega
theorem sys_below {w w' : World} {x : Value} {a f l : Int} {n : Nat} {T : Nat → Nat} {m : Nat → Nat → Nat} {L : Nat → Nat → Nat → Int} {K : Nat → Nat} {F : Nat → Nat → Nat} (h : SysR w x a f l n T m L K F) (hb : Below w.heap.size w w') : SysR w' x a f l n T m L K F := by
  obtain ⟨A, c, e, hr⟩ := h
  exact ⟨A, c, e, hr.below hb⟩
set_option maxHeartbeats 2000000 in
theorem rpoint_any (x : Value) (a f l : Int) (n : Nat) (T : Nat → Nat) (m : Nat → Nat → Nat) (L : Nat → Nat → Nat → Int) (K : Nat → Nat) (F : Nat → Nat → Nat) (r t : Int) (w : World) (h : SysR w x a f l n T m L K F) :
    Calls Try.prog 44 #[x, .agg #[.int .i64 r, .int .i64 t]] w fun e w' => e = .returned (.bool (decide (inP n l.toNat r t))) ∧ Below w.heap.size w w' := by
  obtain ⟨A, c, rfl, -⟩ := h
  obtain ⟨W, hW⟩ : ∃ W, W = (w.alloc (.cells #[.int .i64 a, .int .i64 f, .int .i64 l, .slice A n c] 24)).alloc (.cells #[.int .i64 r, .int .i64 t] 26) := ⟨_, rfl⟩
  obtain ⟨k0, k1, hB⟩ := two_boxes4 w _ _ _ _ W hW
  have q2 := k0.cell (k := 2) rfl
  have q3 := k0.cell (k := 3) rfl
  have p0 := k1.cell (k := 0) rfl
  have p1 := k1.cell (k := 1) rfl
  obtain ⟨V, eV⟩ : ∃ V, V = decide (inP n l.toNat r t) := ⟨_, rfl⟩
  rw [← eV]
  have HV : Hid (V = (decide (0 ≤ r) && decide (r < (n : Int)) && decide (0 ≤ t) && decide (t < l))) := Lib.hid (by
    rw [eV, Bool.eq_iff_iff, decide_eq_true_eq]
    simp only [Bool.and_eq_true, decide_eq_true_eq]
    unfold inP
    constructor
    · rintro ⟨⟨h1, h2⟩, h3, h4⟩
      exact ⟨⟨⟨h1, h2⟩, h3⟩, by omega⟩
    · rintro ⟨⟨⟨h1, h2⟩, h3⟩, h4⟩
      exact ⟨⟨h1, h2⟩, h3, by omega⟩)
  clear eV k0 k1
  go_enter Try.func44, Try.ntmps44
  go_upto_region 1 with (fail)
  rw [← hW]
  clear hW
  by_cases h1 : 0 ≤ r
  case neg =>
    have t1 : decide (r ≥ 0) = false := decide_eq_false h1
    have t1' : decide (0 ≤ r) = false := decide_eq_false h1
    go_wp2_with fail
    go_ret
    exact ⟨by rw [HV.out, t1']; rfl, hB⟩
  have t1 : decide (r ≥ 0) = true := decide_eq_true h1
  have t1' : decide (0 ≤ r) = true := decide_eq_true h1
  by_cases h2 : r < (n : Int)
  case neg =>
    have t2 : decide (r < (n : Int)) = false := decide_eq_false h2
    go_wp2_with fail
    go_ret
    exact ⟨by rw [HV.out, t1', t2]; rfl, hB⟩
  have t2 : decide (r < (n : Int)) = true := decide_eq_true h2
  by_cases h3 : 0 ≤ t
  case neg =>
    have t3 : decide (t ≥ 0) = false := decide_eq_false h3
    have t3' : decide (0 ≤ t) = false := decide_eq_false h3
    go_wp2_with fail
    go_ret
    exact ⟨by rw [HV.out, t1', t2, t3']; rfl, hB⟩
  have t3 : decide (t ≥ 0) = true := decide_eq_true h3
  have t3' : decide (0 ≤ t) = true := decide_eq_true h3
  by_cases h4 : t < l
  case neg =>
    have t4 : decide (t < l) = false := decide_eq_false h4
    go_wp2_with fail
    go_ret
    exact ⟨by rw [HV.out, t1', t2, t3', t4]; rfl, hB⟩
  have t4 : decide (t < l) = true := decide_eq_true h4
  go_wp2_with fail
  go_ret
  exact ⟨by rw [HV.out, t1', t2, t3', t4]; rfl, hB⟩
set_option maxHeartbeats 2000000 in
theorem rfact_any (x : Value) (a f l : Int) (n : Nat) (T : Nat → Nat) (m : Nat → Nat → Nat) (L : Nat → Nat → Nat → Int) (K : Nat → Nat) (F : Nat → Nat → Nat) (r t fc : Nat) (w : World) (h : SysR w x a f l n T m L K F) (hr : r < n) (ht : t < K r) (hfc : fc ≤ 8) :
    Calls Try.prog 50 #[x, .agg #[.int .i64 r, .int .i64 t], .int .i64 fc] w fun e w' => e = .returned (.bool (facB2 F (r, t) fc)) ∧ Below w.heap.size w w' := by
  obtain ⟨A, c, rfl, hR⟩ := h
  obtain ⟨g4, o4, rfl⟩ : ∃ g o, A = some ⟨g, o, none⟩ := by
    obtain ⟨g, o, _, _, e, -⟩ := hR r hr
    exact ⟨g, o, e⟩
  obtain ⟨W, hW⟩ : ∃ W, W = (w.alloc (.cells #[.int .i64 a, .int .i64 f, .int .i64 l, .slice (some ⟨g4, o4, none⟩) n c] 24)).alloc (.cells #[.int .i64 r, .int .i64 t] 26) := ⟨_, rfl⟩
  obtain ⟨k0, k1, hB⟩ := two_boxes4 w _ _ _ _ W hW
  have q3 := k0.cell (k := 3) rfl
  have p0 := k1.cell (k := 0) rfl
  have p1 := k1.cell (k := 1) rfl
  obtain ⟨Ax, cx, Bx, dx, y0, y1, -, hU⟩ := runs_at (hR.below hB) hr
  obtain ⟨gb, gf, rfl, f0, hf0⟩ := hU t ht
  obtain ⟨Z, eZ⟩ : ∃ Z, Z = F r t := ⟨_, rfl⟩
  have hE : facB2 F (r, t) fc = Z.testBit fc := by rw [eZ]; rfl
  rw [hE]
  rw [← eZ] at f0 hf0
  obtain ⟨KX, eKX⟩ : ∃ q, q = K r := ⟨_, rfl⟩
  rw [← eKX] at y1 ht
  have htK1 : (t : Int) < (KX : Int) := by omega
  have hr1 : (r : Int) < (n : Int) := by omega
  have HB := Lib.hid hB
  have hbit := rshr_bit Z fc
  have HBT := Lib.hid hbit
  clear hbit hU hR eZ eKX hE k0 k1 hB y0
  go_enter Try.func50, Try.ntmps50
  go_upto_region 1 with (fail)
  rw [← hW]
  clear hW
  go_quiet (fail)
  go_wp2_with fail
  go_ret
  exact ⟨congrArg (fun b => Ending.returned (Value.bool b)) HBT.out, below_drewN HB.out _⟩
/-- Some agent sees the same at two points. -/
def ralk (a : Nat) (L : Nat → Nat → Nat → Int) (r t r' t' : Nat) : Bool := (List.range a).any fun g => L r t g == L r' t' g
theorem three_boxes (w : World) (xs ys zs : Array Value) (T T' T'' : TypeId) (W : World) (hW : W = ((w.alloc (.cells xs T)).alloc (.cells ys T')).alloc (.cells zs T'')) : Blk W w.heap.size T xs ∧ Blk W (w.heap.size + 1) T' ys ∧ Blk W (w.heap.size + 1 + 1) T'' zs ∧ Below w.heap.size w W := by
  obtain ⟨V, eV⟩ : ∃ V, V = (w.alloc (.cells xs T)).alloc (.cells ys T') := ⟨_, rfl⟩
  obtain ⟨h1, h2, h3⟩ := two_boxes4 w xs ys T T' V eV
  rw [← eV] at hW
  subst hW
  have hb := below_alloc V (.cells zs T'')
  have hs : V.heap.size = w.heap.size + 1 + 1 := by rw [eV]; simp only [World.alloc, Array.size_push]
  exact ⟨h1.below hb, h2.below hb, by have := Blk.new V zs T''; rwa [hs] at this, below_trans h3 hb⟩
/-- A state of an agent, as it lies. -/
theorem loc_at {w : World} {g4 o4 n : Nat} {T : Nat → Nat} {m : Nat → Nat → Nat} {L : Nat → Nat → Nat → Int} {K : Nat → Nat} {F : Nat → Nat → Nat} (hR : RunsR w (some ⟨g4, o4, none⟩) n T m L K F) {r t g : Nat} (hr : r < n) (ht : t < T r) (hg : g < m r t) :
    ∃ gx ox cx ge oe ce, w.cell? ⟨g4, o4 + r * 2, none⟩ = some (.slice (some ⟨gx, ox, none⟩) (T r) cx) ∧ w.cell? ⟨gx, ox + t, none⟩ = some (.slice (some ⟨ge, oe, none⟩) (m r t) ce) ∧ w.cell? ⟨ge, oe + g, none⟩ = some (.int .i64 (L r t g)) := by
  obtain ⟨Ax, cx, Bx, dx, y0, y1, ⟨R, cc, hM⟩, -⟩ := runs_at hR hr
  obtain ⟨gx, ox, rfl, z0, -, hI⟩ := hM t ht
  obtain ⟨ge, oe, e, z1, -, -⟩ := hI g hg
  rw [e] at z0
  exact ⟨gx, ox, cx, ge, oe, cc t, y0, z0, z1⟩
set_option maxHeartbeats 4000000 in
theorem ralike_any (x : Value) (a : Nat) (f l : Int) (n : Nat) (T : Nat → Nat) (m : Nat → Nat → Nat) (L : Nat → Nat → Nat → Int) (K : Nat → Nat) (F : Nat → Nat → Nat) (r t r' t' : Nat) (w : World) (h : SysR w x a f l n T m L K F) (ha : a ≤ 65536) (hr : r < n) (ht : t < T r) (hr' : r' < n) (ht' : t' < T r') (hm : a ≤ m r t) (hm' : a ≤ m r' t') :
    Calls Try.prog 62 #[x, .agg #[.int .i64 r, .int .i64 t], .agg #[.int .i64 r', .int .i64 t']] w fun e w' => e = .returned (.bool (ralk a L r t r' t')) ∧ Below w.heap.size w w' := by
  obtain ⟨A, c, rfl, hR⟩ := h
  obtain ⟨g4, o4, rfl⟩ : ∃ g o, A = some ⟨g, o, none⟩ := by
    obtain ⟨g, o, _, _, e, -⟩ := hR r hr
    exact ⟨g, o, e⟩
  obtain ⟨W, hW⟩ : ∃ W, W = ((w.alloc (.cells #[.int .i64 a, .int .i64 f, .int .i64 l, .slice (some ⟨g4, o4, none⟩) n c] 24)).alloc (.cells #[.int .i64 r, .int .i64 t] 26)).alloc (.cells #[.int .i64 r', .int .i64 t'] 26) := ⟨_, rfl⟩
  obtain ⟨k0, k1, k2, hB⟩ := three_boxes w _ _ _ _ _ _ W hW
  have HK0 := Lib.hid k0
  have HK1 := Lib.hid k1
  have HK2 := Lib.hid k2
  have HR := Lib.hid (hR.below hB)
  have HB := Lib.hid hB
  have hr1 : (r : Int) < (n : Int) := by omega
  have hr1' : (r' : Int) < (n : Int) := by omega
  have HLO := Lib.hid (fun (z : World) (hz : Below W.heap.size W z) (g : Nat) (hg : g < a) => loc_at (HR.out.below hz) hr ht (g := g) (by omega))
  have HLO' := Lib.hid (fun (z : World) (hz : Below W.heap.size W z) (g : Nat) (hg : g < a) => loc_at (HR.out.below hz) hr' ht' (g := g) (by omega))
  obtain ⟨TX, eTX⟩ : ∃ q, q = T r := ⟨_, rfl⟩
  obtain ⟨TY, eTY⟩ : ∃ q, q = T r' := ⟨_, rfl⟩
  obtain ⟨MX, eMX⟩ : ∃ q, q = m r t := ⟨_, rfl⟩
  obtain ⟨MY, eMY⟩ : ∃ q, q = m r' t' := ⟨_, rfl⟩
  obtain ⟨P, eP⟩ : ∃ q : Nat → Int, q = fun g => L r t g := ⟨_, rfl⟩
  obtain ⟨Q, eQ⟩ : ∃ q : Nat → Int, q = fun g => L r' t' g := ⟨_, rfl⟩
  have hV : ralk a L r t r' t' = (List.range a).any fun g => P g == Q g := by rw [eP, eQ]; rfl
  have HP : Hid (∀ g, L r t g = P g) := Lib.hid (fun g => by rw [eP])
  have HQ : Hid (∀ g, L r' t' g = Q g) := Lib.hid (fun g => by rw [eQ])
  rw [hV]
  rw [← eTX, ← eMX] at HLO
  rw [← eTY, ← eMY] at HLO'
  rw [← eTX] at ht
  rw [← eTY] at ht'
  rw [← eMX] at hm
  rw [← eMY] at hm'
  have ht1 : (t : Int) < (TX : Int) := by omega
  have ht1' : (t' : Int) < (TY : Int) := by omega
  clear eTX eTY eMX eMY eP eQ hV hR k0 k1 k2 hB
  go_enter Try.func62, Try.ntmps62
  go_upto_region 1 with (fail)
  rw [← hW]
  obtain ⟨b0, eb0⟩ : ∃ b, b = w.heap.size := ⟨_, rfl⟩
  obtain ⟨b1, eb1⟩ : ∃ b, b = w.heap.size + 1 := ⟨_, rfl⟩
  obtain ⟨b2, eb2⟩ : ∃ b, b = w.heap.size + 1 + 1 := ⟨_, rfl⟩
  rw [← eb2, ← eb1, ← eb0]
  rw [← eb0] at HK0
  rw [← eb1] at HK1
  rw [← eb2] at HK2
  clear hW eb0 eb1 eb2
  go_wp2_with fail
  go_loopw [7] (fun iv wr => ∃ i : Nat, i ≤ a ∧ iv = .int .i64 i ∧ Hid (∀ g, g < i → P g ≠ Q g) ∧ Below W.heap.size W wr) (fun iv _ => a - (intOf iv).toNat)
  case atStart => exact ⟨0, Nat.zero_le _, rfl, Lib.hid fun u hu => absurd hu (Nat.not_lt_zero _), Below.refl _ _⟩
  case round =>
    obtain ⟨i, hi, rfl, HN, hbl⟩ := hrel
    have HBL := Lib.hid hbl
    have q0 := (HK0.out.below hbl).cell (k := 0) rfl
    by_cases hlt : i < a
    · obtain ⟨gx, ox, cx, ge, oe, ce, x0, x1, x2⟩ := HLO.out _ hbl i hlt
      obtain ⟨gx', ox', cx', ge', oe', ce', y0, y1, y2⟩ := HLO'.out _ hbl i hlt
      rw [HP.out] at x2
      rw [HQ.out] at y2
      have q3 := (HK0.out.below hbl).cell (k := 3) rfl
      have p0 := (HK1.out.below hbl).cell (k := 0) rfl
      have p1 := (HK1.out.below hbl).cell (k := 1) rfl
      have p0' := (HK2.out.below hbl).cell (k := 0) rfl
      have p1' := (HK2.out.below hbl).cell (k := 1) rfl
      have hia : (i : Int) < (a : Int) := by omega
      have him : (i : Int) < (MX : Int) := by omega
      have him' : (i : Int) < (MY : Int) := by omega
      obtain ⟨p, ep⟩ : ∃ p, p = P i := ⟨_, rfl⟩
      obtain ⟨q, eq⟩ : ∃ q, q = Q i := ⟨_, rfl⟩
      rw [← ep] at x2
      rw [← eq] at y2
      by_cases he : p = q
      · have HV : Hid (((List.range a).any fun g => P g == Q g) = true) := Lib.hid (List.any_eq_true.2 ⟨i, List.mem_range.2 hlt, by rw [beq_iff_eq, ← ep, ← eq]; exact he⟩)
        have t1 : (p == q) = true := by rw [beq_iff_eq]; exact he
        clear hbl he ep eq HN
        go_wp2_with fail
        go_quiet (fail)
        go_wp2_with fail
        go_ret
        exact ⟨by rw [HV.out]; rfl, below_trans HB.out (below_drewN HBL.out _)⟩
      · have HN2 : Hid (∀ g, g < i + 1 → P g ≠ Q g) := Lib.hid fun g hg => by
          rcases Nat.lt_succ_iff_lt_or_eq.1 hg with h1 | rfl
          · exact HN.out g h1
          · rw [← ep, ← eq]; exact he
        have t1 : (p == q) = false := by rw [beq_eq_false_iff_ne]; exact he
        clear hbl he ep eq HN
        go_wp2_with fail
        go_quiet (fail)
        go_wp2_with fail
        go_roundw
        case rel => exact ⟨i + 1, by omega, by go_num, HN2, below_drewN HBL.out _⟩
        case measure => simp [intOf]; omega
    · obtain rfl : i = a := by omega
      have HV : Hid (((List.range i).any fun g => P g == Q g) = false) := Lib.hid (List.any_eq_false.2 fun g hg => by rw [beq_iff_eq]; exact HN.out g (List.mem_range.1 hg))
      have hii : ¬ (i : Int) < (i : Int) := by omega
      clear hbl HN
      go_wp2_with fail
      go_ret
      exact ⟨by rw [HV.out]; rfl, below_trans HB.out HBL.out⟩
end Go.Proofs.Ytahaimecchdfeaa

/-
  What lies in memory while a chain is looked for.
-/
namespace Go.Proofs.Ytahaimecchdfeaa
open Go.RowKit

theorem unf_le (N : Nat) (S : Nat → Bool) : unf N S ≤ N := by
  unfold unf
  refine Nat.le_trans (List.length_filter_le _ _) ?_
  rw [List.length_range]
  exact Nat.le_refl _
/-- What lies in memory while a chain is looked for. -/
structure ChI (w W : World) (bMp bB bT N : Nat) (bef : Nat → Option Int) (q : List Nat) (v : Value) : Prop where
  below : Below w.heap.size w W
  map : ∃ n, n + unf N (befS bef) ≤ N + 1 ∧ IntM W bMp n bef
  box : Blk W bB 96 #[.map (some bMp)]
  todo : Blk W bT 75 #[v]
  que : QueR W w.heap.size v q
  hM : w.heap.size ≤ bMp
  hT : w.heap.size ≤ bT
theorem ChI.kept {w W W' : World} {bMp bB bT N : Nat} {bef : Nat → Option Int} {q : List Nat} {v : Value} (h : ChI w W bMp bB bT N bef q v) (hb : Below W.heap.size W W') : ChI w W' bMp bB bT N bef q v :=
  ⟨below_trans h.below hb, let ⟨n, h1, h2⟩ := h.map; ⟨n, h1, h2.below hb⟩, h.box.below hb, h.todo.below hb, h.que.below hb, h.hM, h.hT⟩
theorem ChI.lt {w W : World} {bMp bB bT N : Nat} {bef : Nat → Option Int} {q : List Nat} {v : Value} (h : ChI w W bMp bB bT N bef q v) : bMp < W.heap.size := let ⟨_, _, h2⟩ := h.map; h2.lt
theorem ChI.own {β : Type} {w : World} {bMp bB bT N B : Nat} {bef : β → Nat → Option Int} {q : β → List Nat} {p : β → Value → Prop} (hB : w.heap.size ≤ B) (hM : bMp < B) : OwnFrom B (fun s W => ∃ v, ChI w W bMp bB bT N (bef s) (q s) v ∧ p s v) := fun s W W' row ⟨v, h, hp⟩ hg hr => by
  have hk : KeepRow W W' none := fun i cs T fr hi _ => by
    refine (hg.block i (Array.getElem?_eq_some_iff.1 hi).1 fun e => ?_).trans hi
    obtain ⟨_, o, ho, hc⟩ := hr i e.symm
    rw [hi] at ho
    cases ho
    cases hc
  have hb : Below w.heap.size W W' := (Below.refl _ W).grown hg h.below.size (fun k e => Nat.le_trans hB (hr k e).1)
  obtain ⟨n, h1, h2⟩ := h.map
  exact ⟨v, ⟨h.below.trans hb, ⟨n, h1, h2.kept hg fun e => by have := (hr _ e).1; omega⟩, h.box.keepRow hk, h.todo.keepRow hk, h.que.keepRow hk, h.hM, h.hT⟩, hp⟩
/-- One point more in the map. -/
theorem ChI.put {w W : World} {bMp bB bT N x : Nat} {bef : Nat → Option Int} {q : List Nat} {v : Value} (h : ChI w W bMp bB bT N bef q v) (hx : x < N) (hN : N ≤ 1024) (hn : (bef x).isSome = false) (i : Int) :
    ∃ W1, (Instr.mapUpdate 96 (.map (some bMp)) (.int .i64 x) (.int .i64 i)).run Try.prog W = .ok () W1 ∧ W.grownBy W1 (some bMp) ∧ ChI w W1 bMp bB bT N (fun j => if j = x then some i else bef j) q v := by
  obtain ⟨n, h1, h2⟩ := h.map
  obtain ⟨W1, hr, hm, hg⟩ := h2.put (k := x) (by omega) (by omega) i
  have hkeep : ∀ b T xs, Blk W b T xs → Blk W1 b T xs := fun b T xs hb => hb.kept hg fun e => h2.ne_blk hb (Option.some.inj e).symm
  refine ⟨W1, hr, hg, ⟨h.below.trans ((Below.refl _ W).grown hg h.below.size (fun k e => by injection e with e; rw [← e]; exact h.hM)), ⟨n + 1, ?_, hm⟩, hkeep _ _ _ h.box, hkeep _ _ _ h.todo, h.que.keeps fun b cs hb => hkeep b _ cs hb, h.hM, h.hT⟩⟩
  have := unf_add (N := N) (x := x) (S := befS bef) hx hn
  have e : (fun k => befS bef k || k == x) = befS (fun j => if j = x then some i else bef j) := funext fun k => by
    unfold befS
    by_cases e : k = x
    · simp [e]
    · simp [e]
  rw [e] at this
  omega
/-- .. and in the queue. -/
theorem ChI.more {w W1 W2 W3 : World} {bMp bB bT N x B1 B2 : Nat} {bef : Nat → Option Int} {q : List Nat} {v v' : Value} (h : ChI w W1 bMp bB bT N bef q v) (h2 : bT < B1) (h3 : ∀ g, v.ownBlock = some g → g < B1 ∨ B2 ≤ g) (h4 : B2 ≤ W1.heap.size)
    (e2 : W2 = W1.alloc (.cells #[.int .i64 x] 3)) (hq : QueR W3 w.heap.size v' (q ++ [x])) (hg : W2.grownBy W3 v.ownBlock) (hn : ∀ g, v'.ownBlock = some g → v.ownBlock = some g ∨ W2.heap.size ≤ g) :
    (W3.cell? ⟨bT, 0, none⟩ = some v ∧ W3.frozen? ⟨bT, 0, none⟩ = false) ∧ ChI w (W3.setCell ⟨bT, 0, none⟩ v') bMp bB bT N bef (q ++ [x]) v' ∧ KpA w.heap.size B1 B2 W1 (W3.setCell ⟨bT, 0, none⟩ v') ∧ KeepsOthers W1 (W3.setCell ⟨bT, 0, none⟩ v') ∧ (∀ g, v'.ownBlock = some g → g < B1 ∨ B2 ≤ g) := by
  have nBT := h.box.ne h.todo (by decide)
  have hb2 := below_alloc W1 (.cells #[.int .i64 x] 3)
  rw [← e2] at hb2
  have b2 := h.box.below hb2
  have b3 := h.todo.below hb2
  have b4 := h.que.below hb2
  have c2 := b2.kept hg (b4.ne_blk b2 (by decide))
  have c3 := b3.kept hg (b4.ne_blk b3 (by decide))
  obtain ⟨n, hn1, hm⟩ := h.map
  have m2 := hm.below hb2
  have nMT := m2.ne_blk b3
  have m3 := m2.kept hg (fun e => by
    obtain ⟨g, off, cap, cur, rfl, -, hh, -⟩ := b4
    injection e with e
    exact m2.ne_blk (show Blk W2 g 3 cur from hh) e)
  have m4 := m3.kept (gr_set W3 bT 0 v') (fun e => nMT (by injection e))
  have s2 : W2.heap.size = W1.heap.size + 1 := by rw [e2]; simp
  have d1 : Below w.heap.size W1 W3 := (hb2.mono h.below.size).trans ((Below.refl _ W2).grown hg (by rw [s2]; have := h.below.size; omega) (fun g e => (b4.lt e).1))
  have d2 : Below w.heap.size W3 (W3.setCell ⟨bT, 0, none⟩ v') := (Below.refl _ W3).setCell (p := ⟨bT, 0, none⟩) h.hT _
  have k3 := gr_set W3 bT 0 v'
  have hsz := h.below.size
  refine ⟨⟨c3.cell rfl, c3.frozen⟩, ⟨(h.below.trans d1).trans d2, ⟨n, hn1, m4⟩, c2.set_ne nBT _ _, c3.set 0 v', hq.keeps (Keeps.of_set c3 (by decide) _ _), h.hM, h.hT⟩, ⟨d1.trans d2, fun b x y => ?_⟩, ?_, fun g hg' => ?_⟩
  · have hbW : b < W1.heap.size := by omega
    rw [k3.block b (by have := hg.size; omega) (fun e => by injection e with e; omega), hg.block b (by omega) (fun e => by rcases h3 b e.symm with u | u <;> omega), hb2.block b (by omega)]
  · have o2 : KeepsOthers W1 W2 := by rw [e2]; exact KeepsOthers.alloc _ _
    refine KeepsOthers.trans (KeepsOthers.trans o2 (KeepsOthers.of_grownBy hg fun j o e hj => ?_)) (KeepsOthers.setCell _ _ _)
    obtain ⟨g, off, cap, cur, rfl, -, hh, -⟩ := b4
    injection e with e
    subst e
    rw [hh] at hj
    injection hj with hj
    subst hj
    rfl
  · rcases hn g hg' with u | u
    · exact h3 g u
    · right; omega
theorem ChI.turn {w W : World} {bMp bB bT N : Nat} {bef : Nat → Option Int} {q q' : List Nat} {v v' : Value} (h : ChI w W bMp bB bT N bef q v) (hq : QueR W w.heap.size v' q') : ChI w (W.alloc (.cells #[v'] 75)) bMp bB W.heap.size N bef q' v' := by
  have hb := below_alloc W (.cells #[v'] 75)
  have h1 := h.kept hb
  exact ⟨h1.below, h1.map, h1.box, Blk.new W #[v'] 75, hq.below hb, h.hM, h.below.size⟩
theorem ChI.congr {w W : World} {bMp bB bT N : Nat} {bef bef' : Nat → Option Int} {q : List Nat} {v : Value} (h : ChI w W bMp bB bT N bef q v) (e : ∀ k, bef k = bef' k) : ChI w W bMp bB bT N bef' q v := by
  have : bef = bef' := funext e
  exact this ▸ h
/-- A map's block keeps all others, from a place beyond it on. -/
theorem keepsFrom_row {W W1 : World} {b C : Nat} (hg : W.grownBy W1 (some b)) (hb : b < C) : KeepsFrom C W W1 := ⟨hg.size, fun k o hk ho _ => (hg.block k (Array.getElem?_eq_some_iff.1 ho).1 (fun e => by injection e with e; omega)).trans ho⟩
theorem KpA.row {n₀ B1 B2 b : Nat} {W W1 : World} (hg : W.grownBy W1 (some b)) (hn : n₀ ≤ W.heap.size) (hb : n₀ ≤ b) (h1 : b < B1) (h2 : B2 ≤ W.heap.size) : KpA n₀ B1 B2 W W1 :=
  ⟨(Below.refl _ W).grown hg hn (fun k e => by cases e; exact hb), fun k a c => hg.block k (by omega) (fun e => by injection e with e; omega)⟩
/-- What is next on the way back. -/
def bkV : List Nat → Int
  | [] => -1
  | k :: _ => (k : Int)
theorem BackL.next {bef : Nat → Option Int} {s k : Nat} {l : List Nat} (h : BackL bef s (k :: l)) : bef k = some (bkV l) ∧ (l = [] ∨ BackL bef s l) := by
  cases l with
  | nil => exact ⟨h.2, .inl rfl⟩
  | cons j l => exact ⟨h.1, .inr h.2⟩
/-- What lies in memory on the way back. -/
structure PaS (w X : World) (bMp bB bI base : Nat) (bef : Nat → Option Int) (c : Int) (pv : Value) (l : List (Nat × Nat)) : Prop where
  below : Below w.heap.size w X
  map : ∃ n, IntM X bMp n bef
  box : Blk X bB 96 #[.map (some bMp)]
  cur : Blk X bI 3 #[.int .i64 c]
  path : PnO X base pv l
  hB : w.heap.size ≤ base
  hI : w.heap.size ≤ bI
  hS : base ≤ X.heap.size
theorem PaS.drew {w X : World} {bMp bB bI base : Nat} {bef : Nat → Option Int} {c : Int} {pv : Value} {l : List (Nat × Nat)} (h : PaS w X bMp bB bI base bef c pv l) : PaS w X.drew bMp bB bI base bef c pv l :=
  ⟨below_drew h.below, let ⟨n, h1⟩ := h.map; ⟨n, h1⟩, h.box, h.cur, h.path, h.hB, h.hI, h.hS⟩
theorem PaS.more {w X X2 X3 : World} {bMp bB bI base : Nat} {bef : Nat → Option Int} {c : Int} {pv pv' : Value} {l : List (Nat × Nat)} {p : Nat × Nat} (h : PaS w X bMp bB bI base bef c pv l) (e2 : X2 = X.alloc (.cells #[.int .i64 p.1, .int .i64 p.2] 26))
    (hp : X3.ownsRow base 26 2 pv' (l.length + 1) (crL l ++ [.int .i64 p.1, .int .i64 p.2])) (hg : X2.grownBy X3 pv.ownBlock) : PaS w X3 bMp bB bI base bef c pv' (l ++ [p]) ∧ KeepsOthers X X3 := by
  have hb := below_alloc X (.cells #[.int .i64 p.1, .int .i64 p.2] 26)
  rw [← e2] at hb
  obtain ⟨n, hm⟩ := h.map
  have m2 := hm.below hb
  have q2 : PnO X2 base pv l := h.path.below hb
  have hne : pv.ownBlock ≠ some bMp := by
    rcases q2.2 with ⟨rfl, -⟩ | ⟨g, cap, cur, rfl, -, hh, -⟩
    · intro e; cases e
    · intro e
      injection e with e
      exact m2.ne_blk (show Blk X2 g 26 cur from hh) e
  have hlt : ∀ g, pv.ownBlock = some g → base ≤ g := fun g e => (q2.lt g e).1
  have o2 : KeepsOthers X X2 := by rw [e2]; exact KeepsOthers.alloc _ _
  have hs2 : X2.heap.size = X.heap.size + 1 := by rw [e2]; simp
  have hsz := h.below.size
  refine ⟨⟨h.below.trans ((hb.mono hsz).trans ((Below.refl _ X2).grown hg (by omega) (fun g e => Nat.le_trans h.hB (hlt g e)))), ⟨n, m2.kept hg hne⟩, (h.box.below hb).kept_row q2 (by decide) hg, (h.cur.below hb).kept_row q2 (by decide) hg, ?_, h.hB, h.hI, by have := h.hS; have := hg.size; omega⟩, o2.trans (KeepsOthers.of_grownBy hg fun q o e hq => ?_)⟩
  · unfold PnO
    rw [crL_snoc, List.length_append]
    exact hp
  · rcases q2.2 with ⟨rfl, -⟩ | ⟨g, cap, cur, rfl, -, hh, -⟩
    · cases e
    · injection e with e
      subst e
      rw [hh] at hq
      injection hq with hq
      subst hq
      rfl
theorem PaS.set {w X : World} {bMp bB bI base : Nat} {bef : Nat → Option Int} {c : Int} {pv : Value} {l : List (Nat × Nat)} (h : PaS w X bMp bB bI base bef c pv l) (c' : Int) : PaS w (X.setCell ⟨bI, 0, none⟩ (.int .i64 c')) bMp bB bI base bef c' pv l :=
  ⟨h.below.setCell (p := ⟨bI, 0, none⟩) h.hI _, let ⟨n, h1⟩ := h.map; ⟨n, h1.kept (gr_set X bI 0 _) fun e => h1.ne_blk h.cur (Option.some.inj e)⟩, h.box.set_ne (h.box.ne h.cur (by decide)) _ _, h.cur.set 0 _, own_keeps h.path (Keeps.of_set h.cur (by decide) _ _), h.hB, h.hI, Nat.le_trans h.hS (gr_set X bI 0 (.int .i64 c')).size⟩
/-- An append to a row of the call's own, in a region that draws. -/
theorem step_append_own {P : Program} {ops : Array Oper} {o : Oper} {a : Act} {w : World} {K : Act → World → Prop} {Q : Exit → Act → World → Prop} {E : Prop}
    (hg : o.guard = none) (s x : Operand) (t : TypeId) (hop : o.op = Op.call { callee := Callee.builtin Builtin.append, args := #[s, x], argTypes := #[t, t] })
    (base : Nat) (e : TypeId) (i : TypeInfo) (z : Value) (size bytes : Nat) (ht : P.underlying t = some (.slice e)) (hi : P.info? e = some i) (hz : i.zero = some z) (hsize : i.size = size) (hby : i.bytes = bytes) (hzs : z.cells.size = size) (hsz : 0 < size)
    (v : Value) (n : Nat) (xs : List Value) (hs : a.eval s = v) (hown : w.ownsRow base e size v n xs)
    (ad : Addr) (m c : Nat) (news : List Value) (hx : a.eval x = .slice (some ad) m c) (hl : news.length = m * size) (hnews : ∀ j u, news[j]? = some u → w.cell? (ad.add j) = some u) (h1 : ∀ u ∈ news, u.oneCell' = true)
    (h63 : n + m ≤ maxLen) (hbytes : (n + m) * bytes ≤ 140737488355328) (hbase : base ≤ w.heap.size)
    (h : ∀ v' w', w'.ownsRow base e size v' (n + m) (xs ++ news) → w.grownBy w' v.ownBlock → K (a.put o.dst v') w') :
    if Region.wanted o (yielded ops a.tmps) = true then Oper.wp P o a w K Q else E := by
  have hw : Region.wanted o (yielded ops a.tmps) = true := by simp [Region.wanted, hg]
  rw [if_pos hw]
  obtain ⟨v', w', hr, h2, h3, -, -⟩ := run_append_own_at (P := P) w base t o.type e i z size bytes ht hi hz hsize hby hzs hsz v n xs hown ad m c news hl hnews h1 h63 hbytes hbase
  unfold Oper.wp execOp
  simp only [hop, resolve, invoke, builtin, Sem.run_bind, Sem.run_pure, Result.andThen_ok, List.map_toArray, List.map_cons, List.map_nil, hs, hx, hr]
  exact h v' w' h2 h3
def lenV : Value → Nat
  | .slice _ n _ => n
  | _ => 0
theorem PnO.lenV {w : World} {base : Nat} {v : Value} {l : List (Nat × Nat)} (h : PnO w base v l) : lenV v = l.length := by
  obtain ⟨A, c, rfl⟩ := h.shape
  rfl
end Go.Proofs.Ytahaimecchdfeaa
