/-
  Texts of this claim, one after the other: what each proves is said at its head. No condition beyond those that its theorems name.
-/
import Derived.RangeFuncNested
import Derived.RangeFuncBound
import Derived.RangeFuncCalls
import Derived.RangeFuncLeaves
import Derived.Shelf.Abstract
import Derived.Shelf.RegionOpen
import Derived.Shelf.RegionOpenPlain
import Derived.WalkKit
import Derived.OwnWalkIn
import Derived.TacticsInMore
import Derived.LoopNIn
import Derived.LoopIn
import Derived.BigRegionIn
import Derived.Sort.QuietIn
import Derived.Sort.CutIn
import Derived.Test.YtahaimecchdfeaaProg
import Derived.Test.YtahaimecchdfeaaH01
import Derived.Test.YtahaimecchdfeaaH02
import Derived.Test.YtahaimecchdfeaaH03
import Derived.Test.YtahaimecchdfeaaH09
import Derived.Test.YtahaimecchdfeaaH12
import Derived.Test.YtahaimecchdfeaaH15
import Derived.Test.YtahaimecchdfeaaH19
import Derived.Test.YtahaimecchdfeaaH22
import Derived.Test.YtahaimecchdfeaaH23
import Derived.Test.YtahaimecchdfeaaH24
import Derived.Test.YtahaimecchdfeaaH27
import Derived.Test.YtahaimecchdfeaaH29
import Derived.Test.YtahaimecchdfeaaH31
import Derived.Test.YtahaimecchdfeaaH32

/-
  Walks of package attack: Chain.
-/
namespace Go.Proofs.Ytahaimecchdfeaa
open Go.RowKit Go.Shelf
attribute [local go_sem] Oper.semAt_some

/-- What Chain leaves. -/
def ChnPost (w : World) (R : Int) (n : Nat) (fa fh fm : Nat → Int) (r t : Int) (e : Ending) (w' : World) : Prop :=
  ∃ v E, e = .returned (.tuple #[v, .int .i64 E]) ∧ Below w.heap.size w w' ∧ ∃ ps, ps = losRs (sndV n fa fh fm) R.toNat ∧
    ((losE R n fa fh fm ≠ 0 ∧ v = .slice none 0 0 ∧ E = (losE R n fa fh fm : Nat)) ∨
     (losE R n fa fh fm = 0 ∧ ¬ inP ps.length (R + 1).toNat r t ∧ v = .slice none 0 0 ∧ E = 2) ∨
     (losE R n fa fh fm = 0 ∧ inP ps.length (R + 1).toNat r t ∧
       ((∃ l, E = 0 ∧ ChOk (akS 2 (R + 1) ps.length (psL (sndV n fa fh fm) ps)) (ps.length * (R + 1).toNat) (posP (R + 1) r t) (facK (lF ps) ps.length (R + 1) 0) l ∧ PnO w' w.heap.size v (l.map (ptG (ptL ps.length (R + 1).toNat)))) ∨
        (E = 6 ∧ v = .slice none 0 0 ∧ ∀ m k, walkN (akS 2 (R + 1) ps.length (psL (sndV n fa fh fm) ps)) (posP (R + 1) r t) m k → facK (lF ps) ps.length (R + 1) 0 k = facK (lF ps) ps.length (R + 1) 0 (posP (R + 1) r t)))))
set_option maxHeartbeats 8000000 in
set_option maxRecDepth 100000 in
theorem Chain_any (R : Int) (A : Option Addr) (n c : Nat) (fa fh fm : Nat → Int) (r t : Int) (w : World) (hx : RuleS w A n fa fh fm) (hn : n ≤ 65536) :
    Calls Try.prog 25 #[.agg #[.int .i64 R, .slice A n c], .agg #[.int .i64 r, .int .i64 t]] w (ChnPost w R n fa fh fm r t) := by
  have HLO := Lib.hid (fun W (h : RuleS W A n fa fh fm) => Lossy_any R A n c fa fh fm W h (by omega))
  obtain ⟨W, hW⟩ : ∃ W, W = (w.alloc (.cells #[.int .i64 R, .slice A n c] 43)).alloc (.cells #[.int .i64 r, .int .i64 t] 26) := ⟨_, rfl⟩
  obtain ⟨k0, k1, hB, hs⟩ := two_allocs w _ _ _ _ W hW
  have HB := Lib.hid hB
  have HK1 := Lib.hid k1
  have hLO := HLO.out W (hx.below hB)
  have d0 := k0.cell (k := 0) rfl
  have d1 := k0.cell (k := 1) rfl
  have HE1 := Lib.hid hLO
  have HW := Lib.hid hW
  clear hx hW k0 k1 hB hs HLO hLO
  refine (callsIn_wide (n := 8)).1 ?_
  refine callsIn_of_wp_marksN Try.func25 rfl trivial ?_ rfl
  simp only [Try.ntmps25, List.size_toArray, List.length_cons, List.length_nil, Nat.reduceAdd, Nat.reduceSub, Array.replicate_succ, Array.replicate_zero, List.push_toArray, List.append_toArray, List.nil_append, List.cons_append]
  gi_upto_region 1 with (fail)
  rw [← HW.out]
  clear HW
  obtain ⟨D, eD⟩ : ∃ D, D = losD R n fa fh fm := ⟨_, rfl⟩
  obtain ⟨E, eE⟩ : ∃ E, E = losE R n fa fh fm := ⟨_, rfl⟩
  rw [← eD, ← eE] at HE1
  have ED := Lib.hid eD
  have EE := Lib.hid eE
  clear eD eE
  gi_upto_region 2 with (refine ⟨trivial, ?_⟩; gi_at_call 27; refine (callsIn_wide.2 HE1.out).mono ?_; rintro e w1 ⟨x, rfl, ⟨vR, rfl, hvR⟩, hb1⟩; obtain ⟨AR, cR, rfl⟩ := runsO_shape hvR; have HVR := Lib.hid hvR; have HB1 := Lib.hid hb1; clear hvR hb1)
  clear d0 d1 HE1
  have hba := below_alloc w1 (.cells #[.int .i64 D.a, .int .i64 D.f, .int .i64 D.l, .slice AR D.ps.length cR] 24)
  have hbk := Blk.new w1 #[.int .i64 D.a, .int .i64 D.f, .int .i64 D.l, .slice AR D.ps.length cR] 24
  have HB := Lib.hid (below_trans (below_trans HB.out HB1.out) hba)
  have HK1 := Lib.hid ((HK1.out.below HB1.out).below hba)
  have HVR := Lib.hid (HVR.out.below hba)
  obtain ⟨V, eV⟩ : ∃ V, V = w1.alloc (.cells #[.int .i64 D.a, .int .i64 D.f, .int .i64 D.l, .slice AR D.ps.length cR] 24) := ⟨_, rfl⟩
  rw [← eV] at hbk HB HK1 HVR ⊢
  obtain ⟨b6, eb6⟩ : ∃ b, b = w1.heap.size := ⟨_, rfl⟩
  rw [← eb6] at hbk ⊢
  have HB6 := Lib.hid hbk
  clear hba hbk eV eb6 HB1
  by_cases hE : E = 0
  case neg =>
    have t1 : ((E : Int) != 0) = true := by rw [bne_iff_ne]; omega
    have HNE := Lib.hid hE
    clear hE
    gi_wp2
    change LeavesInM _ _ _ _ _ _ _ _ _
    refine leaves_marks (B := w.heap.size) _ _ trivial fun w2 hb3 hk3 => ?_
    exact ⟨_, results_tmp2 rfl _ _ _, _, _, rfl, HB.out.trans hb3, _, rfl, .inl ⟨by rw [← EE.out]; exact HNE.out, rfl, by rw [← EE.out]⟩⟩
  subst hE
  rw [show ((0 : Nat) : Int) = 0 from rfl]
  have hLS := los_sys (w := V) (base := W.heap.size) (R := R) (n := n) (fa := fa) (fh := fh) (fm := fm) (x := .agg #[.int .i64 D.a, .int .i64 D.f, .int .i64 D.l, .slice AR D.ps.length cR]) ⟨_, by rw [← ED.out], by rw [← ED.out]; exact HVR.out⟩ EE.out.symm
  obtain ⟨hls, hck, hlp, hR4, -⟩ := hLS
  have hpl : (losRs (sndV n fa fh fm) R.toNat).length ≤ 64 := (chkE_ok hck).2.2.2.1
  obtain ⟨ps, eps⟩ : ∃ ps, ps = losRs (sndV n fa fh fm) R.toNat := ⟨_, rfl⟩
  obtain ⟨snd, esnd⟩ : ∃ snd, snd = sndV n fa fh fm := ⟨_, rfl⟩
  rw [← eps] at hls hck hpl
  rw [← esnd] at hls
  have EPS := Lib.hid eps
  have ESN := Lib.hid esnd
  have hOP := openS_any _ _ _ _ _ _ _ _ _ _ V hls (by omega) hck
  have HOP := Lib.hid hOP
  have HPL := Lib.hid hpl
  have HR4 := Lib.hid hR4
  have d0 := HB6.out.cell (k := 0) rfl
  have d1 := HB6.out.cell (k := 1) rfl
  have d2 := HB6.out.cell (k := 2) rfl
  have d3 := HB6.out.cell (k := 3) rfl
  clear hls hck hlp hR4 hpl hOP eps esnd
  gi_upto_region 5 with (refine ⟨trivial, ?_⟩; gi_at_call 57; refine (callsIn_wide.2 HOP.out).mono ?_; rintro e w2 ⟨bx, rfl, hsp, hb2⟩; have HSP := Lib.hid hsp; have HB2 := Lib.hid hb2; clear hsp hb2)
  clear d0 d1 d2 d3 HOP
  have HB := Lib.hid (below_trans HB.out HB2.out)
  have hk := HK1.out.below HB2.out
  have HK1 := Lib.hid hk
  have d0 := hk.cell (k := 0) rfl
  have d1 := hk.cell (k := 1) rfl
  have HIX := Lib.hid (HSP.out.index r t)
  clear hk HB2
  gi_upto_region 6 with (refine ⟨trivial, ?_⟩; gi_at_call 58; refine (callsIn_wide.2 HIX.out).mono ?_; rintro e w3 ⟨rfl, hb3⟩; have HB3 := Lib.hid hb3; clear hb3)
  clear d0 d1 HIX
  have HB := Lib.hid (below_trans HB.out HB3.out)
  have HSP := Lib.hid (HSP.out.below HB3.out)
  clear HB3 HK1
  by_cases hin : inP ps.length (R + 1).toNat r t
  case neg =>
    have HN := Lib.hid hin
    rw [ixP_out hin]
    clear hin
    gi_wp2
    change LeavesInM _ _ _ _ _ _ _ _ _
    refine leaves_marks (B := w.heap.size) _ _ trivial fun w2 hb3 hk3 => ?_
    exact ⟨_, results_tmp2 rfl _ _ _, _, _, rfl, HB.out.trans hb3, _, rfl, .inr (.inl ⟨EE.out.symm, by rw [← EPS.out]; exact HN.out, rfl, rfl⟩)⟩
  have HIN := Lib.hid hin
  have hpos := inP_pos hin
  rw [ixP_in hin]
  obtain ⟨i, ei⟩ : ∃ i, i = posP (R + 1) r t := ⟨_, rfl⟩
  have ei2 : r.toNat * (R + 1).toNat + t.toNat = i := by rw [ei]; rfl
  rw [ei2]
  rw [← ei] at hpos
  have EI := Lib.hid ei
  obtain ⟨a', l', A', c', bM, vP, ea, el, -, hsv⟩ := HSP.out
  obtain rfl : a' = 2 := by omega
  have el2 : (R + 1).toNat = l' := by omega
  have EL := Lib.hid el2
  rw [el2] at hpos
  have hR4 := HR4.out
  have hNl : ps.length * l' ≤ 1024 := Nat.le_trans (Nat.mul_le_mul HPL.out (show l' ≤ 16 by omega)) (by decide)
  obtain ⟨base, hpts⟩ := hsv.pts
  obtain ⟨Ap, cp, rfl⟩ := hpts.shape
  have HPT := Lib.hid hpts
  have HSV := Lib.hid hsv
  obtain ⟨NP, eNP⟩ : ∃ NP, NP = ps.length * l' := ⟨_, rfl⟩
  have ENP := Lib.hid (show NP = (ptL ps.length l').length by rw [eNP, ptL_len])
  have EN2 := Lib.hid eNP
  rw [← eNP] at hpos hNl
  have hHO : ∀ X, Below w3.heap.size w3 X → ∀ k, k < NP → Calls Try.prog 49 #[.pointer (some ⟨bx, 0, none⟩), .int .i64 k, .int .i64 0] X fun e w' => e = .returned (.bool (facK (lF ps) ps.length (R + 1) 0 k)) ∧ Below X.heap.size X w' := fun X hX k hk => (HSP.out.below hX).holds (fc := 0) (by rw [el2, ← eNP]; exact hk) (by omega)
  obtain ⟨fac, efac⟩ : ∃ fac, fac = facK (lF ps) ps.length (R + 1) 0 := ⟨_, rfl⟩
  rw [← efac] at hHO
  have HHO := Lib.hid hHO
  have EFAC := Lib.hid efac
  have EAK := Lib.hid (show akS 2 (R + 1) ps.length (psL snd ps) = akB 2 (psL snd ps) (ptL ps.length l') by unfold akS; rw [el2]; rfl)
  obtain ⟨W4, hr4, hm4, hg4⟩ := (IntM.made w3).put (k := i) (by omega) (by omega) (-1)
  have HM4 := Lib.hid hm4
  have HG4 := Lib.hid hg4
  clear hin ei ei2 ea el el2 hR4 hpts hsv eNP hHO efac hm4 hg4 HSP
  have hmm := @run_makeMap Try.prog
  gi_wp2
  rw [show decide ((i : Int) < 0) = false from decide_eq_false (by omega)]
  obtain ⟨Wa, hWa⟩ : ∃ Wa, Wa = W4.alloc (.cells #[.map (some w3.heap.size)] 96) := ⟨_, rfl⟩
  have hbx := Blk.new W4 #[.map (some w3.heap.size)] 96
  have hba := below_alloc W4 (.cells #[.map (some w3.heap.size)] 96)
  have hsa : Wa.heap.size = W4.heap.size + 1 := by rw [hWa]; simp
  rw [← hWa] at hbx hba ⊢
  obtain ⟨V, hV⟩ : ∃ V, V = (Wa.alloc (.cells #[.int .i64 i] 3)).alloc (.cells #[.slice (some ⟨W4.heap.size + 1, 0, none⟩) 1 1] 75) := ⟨_, rfl⟩
  obtain ⟨hq0, ht0, hb0, hs0⟩ := two_allocs Wa _ _ _ _ V hV
  rw [← hV]
  rw [hsa] at hq0 ht0
  have hw4 : Below w3.heap.size w3 W4 := (below_alloc w3 (.map #[] 0)).trans ((Below.refl _ _).grown HG4.out (by simp) (fun k e => by injection e with e; omega))
  have hC0 : ChI w3 V w3.heap.size W4.heap.size (W4.heap.size + 1 + 1) NP (fun j => if j = i then some (-1) else none) [i] (.slice (some ⟨W4.heap.size + 1, 0, none⟩) 1 1) :=
    ⟨below_trans (below_trans hw4 hba) hb0, ⟨0 + 1, by have := unf_le NP (befS (fun j => if j = i then some (-1) else none)); omega, (HM4.out.below hba).below hb0⟩, hbx.below hb0, ht0, QueR.of_block hq0 (by have := hw4.size; omega), Nat.le_refl _, by have := hw4.size; omega⟩
  have HC0 := Lib.hid hC0
  obtain ⟨bMp, eMp⟩ : ∃ g, g = w3.heap.size := ⟨_, rfl⟩
  obtain ⟨bB, eB⟩ : ∃ g, g = W4.heap.size := ⟨_, rfl⟩
  rw [← eB, ← eMp] at HC0 ⊢
  obtain ⟨bQ, eQ⟩ : ∃ g, g = bB + 1 := ⟨_, rfl⟩
  rw [← eQ] at HC0 ⊢
  have EMP := Lib.hid eMp
  clear hr4 hmm hWa hbx hba hsa hV hq0 ht0 hb0 hs0 hw4 hC0 eMp eB eQ HM4 HG4
  refine wpIn_loopM (fun mm a' W => ∃ (ds : List Deferred) (bT : Nat) (bef : Nat → Option Int) (dep : Nat → Nat) (q : List Nat) (vq u12 u37 u38 u39 u40 u41 u42 u43 u44 u45 u46 u47 u48 u49 u50 u51 u70 u71 u72 u89 : Value), mm = unf NP (befS bef) + q.length ∧ mm ≤ NP + 1 ∧ a' = { tmps := #[.agg #[.int .i64 R, .slice A n c], .agg #[.int .i64 r, .int .i64 t], .pointer (some ⟨w.heap.size, 0, none⟩), .pointer (some ⟨w.heap.size + 1, 0, none⟩), .slice none 0 0, .int .i64 0, .pointer (some ⟨b6, 0, none⟩), .int .i64 0, .pointer (some ⟨bx, 0, none⟩), .int .i64 ↑i, .pointer (some ⟨bB, 0, none⟩), .pointer (some ⟨bT, 0, none⟩), u12, undef, undef, undef, undef, .tuple #[.agg #[.int .i64 D.a, .int .i64 D.f, .int .i64 D.l, .slice AR D.ps.length cR], .int .i64 0], .agg #[.int .i64 R, .slice A n c], .tuple #[.agg #[.int .i64 D.a, .int .i64 D.f, .int .i64 D.l, .slice AR D.ps.length cR], .int .i64 0], .agg #[.int .i64 D.a, .int .i64 D.f, .int .i64 D.l, .slice AR D.ps.length cR], .int .i64 0, .int .i64 0, .bool false, undef, .agg #[.int .i64 D.a, .int .i64 D.f, .int .i64 D.l, .slice AR D.ps.length cR], .pointer (some ⟨bx, 0, none⟩), .pointer (some ⟨bx, 0, none⟩), .agg #[.int .i64 r, .int .i64 t], .int .i64 ↑i, .int .i64 ↑i, .bool false, .map (some bMp), .int .i64 ↑i, .map (some bMp), .int .i64 ↑i, .slice (some ⟨bQ, 0, none⟩) 1 1, u37, u38, u39, u40, u41, u42, u43, u44, u45, u46, u47, u48, u49, u50, u51, undef, undef, undef, undef, undef, undef, undef, undef, undef, undef, undef, undef, undef, undef, undef, undef, undef, undef, u70, u71, u72, undef, undef, undef, undef, undef, undef, undef, undef, undef, undef, undef, undef, undef, undef, undef, undef, u89], defers := ds } ∧ ChI w3 W bMp bB bT NP bef q vq ∧ Marks w.heap.size ds W ∧ ChB (akB 2 (psL snd ps) (ptL ps.length l')) NP i fac bef dep q) ?start ?round
  case start => exact ⟨_, [], _, _, _, _, _, _, _, _, _, _, _, _, _, _, _, _, _, _, _, _, _, _, _, _, _, rfl, by have := unf_le NP (befS (fun j => if j = i then some (-1) else none)); simp; omega, rfl, HC0.out, trivial, ChB.start _ fac hpos⟩
  case round =>
    clear HC0
    rintro mm a' W ⟨ds, bT, bef, dep, q, vq, u12, u37, u38, u39, u40, u41, u42, u43, u44, u45, u46, u47, u48, u49, u50, u51, u70, u71, u72, u89, hmm, hm1, rfl, hC, hM, hB⟩
    have HC := Lib.hid hC
    have HM := Lib.hid hM
    have HBF := Lib.hid hB
    have HMM := Lib.hid hmm
    have t0 := hC.todo.cell (k := 0) rfl
    obtain ⟨g, off, cap, rfl⟩ := hC.que.shape
    cases q with
    | nil =>
      simp only [List.length_nil] at t0
      clear hC hM hB hmm
      gi_wp2
      change LeavesInM _ _ _ _ _ _ _ _ _
      refine leaves_marks (B := w.heap.size) _ _ HM.out fun w2 hb3 hk3 => ?_
      refine ⟨_, results_tmp2 rfl _ _ _, _, _, rfl, HB.out.trans ((HC.out.below.mono HB.out.size).trans hb3), _, rfl, .inr (.inr ⟨EE.out.symm, by rw [← EPS.out]; exact HIN.out, .inr ⟨rfl, rfl, ?_⟩⟩)⟩
      rw [← EPS.out, ← ESN.out, ← EI.out, ← EFAC.out, EAK.out]
      exact HBF.out.none
    | cons j q =>
      have c0 := hC.que.head
      have hjN : j < NP := (hB.kn j (by simp)).1
      have hBq := hC.below.size
      obtain ⟨ql, eql⟩ : ∃ ql, ql = q.length := ⟨_, rfl⟩
      have t1 : W.cell? ⟨bT, 0, none⟩ = some (.slice (some ⟨g, off, none⟩) (ql + 1) cap) := by rw [eql]; exact t0
      have hp1 : (0 : Int) < ((ql + 1 : Nat) : Int) := by omega
      have hp2 : (0 : Int) < (ql : Int) + 1 := by omega
      have EQL := Lib.hid eql
      clear hC hM hB hmm eql t0
      gi_upto_region 13 with (fail)
      have hba := below_alloc W (.cells #[.int .i64 j] 3)
      have hbk := Blk.new W #[.int .i64 j] 3
      obtain ⟨W1, eW1⟩ : ∃ W1, W1 = W.alloc (.cells #[.int .i64 j] 3) := ⟨_, rfl⟩
      rw [← eW1] at hba hbk ⊢
      have hs1 : W1.heap.size = W.heap.size + 1 := by rw [eW1]; simp
      obtain ⟨bI, eI⟩ : ∃ b, b = W.heap.size := ⟨_, rfl⟩
      rw [← eI] at hbk ⊢
      have hC1 := HC.out.kept hba
      have HC1 := Lib.hid hC1
      have HM1 := Lib.hid (HM.out.below hba)
      have HK1 := Lib.hid hbk
      have HBZ := Lib.hid hC1.below
      have HBW := Lib.hid (Below.refl W1.heap.size W1)
      have EBI := Lib.hid eI
      have xI := hbk.cell (k := 0) rfl
      have HS1 := Lib.hid hs1
      have HBA := Lib.hid hba
      clear c0 t1 hp1 hp2 hba hbk eW1 hs1 eI hC1 hBq
      by_cases hff : fac j = fac i
      case neg =>
        have e51 : (!(fac j == fac i)) = true := by rw [beq_false_of_ne hff]; rfl
        have HFF := Lib.hid hff
        clear hff
        gi_upto_region 14 with (refine ⟨trivial, ?_⟩; gi_at_call 49; refine (callsIn_wide.2 (HHO.out _ HBZ.out _ (by first | exact hjN | exact hpos))).mono ?_; rintro e w5 ⟨rfl, hb5⟩; have HBZ := Lib.hid (below_trans HBZ.out hb5); have HBW := Lib.hid (below_trans HBW.out hb5); have xI := (HK1.out.below HBW.out).cell (k := 0) rfl; clear hb5)
        clear e51
        obtain ⟨back, hbk, hlen, hbN⟩ := HBF.out.back _ j rfl (HBF.out.kn j (by simp)).2
        have hok := HBF.out.found HFF.out hbk hlen hbN
        have HOK := Lib.hid hok
        obtain ⟨bl, ebl⟩ : ∃ bl, bl = j :: back := ⟨_, rfl⟩
        rw [← ebl] at hbk hbN HOK
        have hbn : bl ≠ [] := by rw [ebl]; exact List.cons_ne_nil _ _
        have hbv : ((j : Nat) : Int) = bkV bl := by rw [ebl]; rfl
        have hC5 := HC1.out.kept HBW.out
        have hP0 : PaS w3 w5 bMp bB bI w5.heap.size bef (bkV bl) (.slice none 0 0) [] :=
          ⟨hC5.below, let ⟨n, _, h⟩ := hC5.map; ⟨n, h⟩, hC5.box, by rw [← hbv]; exact HK1.out.below HBW.out, World.ownsRow_nil _ _ _ _, hC5.below.size, by rw [EBI.out]; exact HC.out.below.size, Nat.le_refl _⟩
        have HP0 := Lib.hid hP0
        have HM5 := Lib.hid (HM1.out.below HBW.out)
        have HBK := Lib.hid hbk
        have HBN := Lib.hid hbN
        have HNE := Lib.hid hbn
        have hlenN : bl.length ≤ 65536 := by have := BackL.len HBF.out (.inr hbk) hbN; omega
        obtain ⟨bp, rfl⟩ : ∃ b, Ap = some ⟨b, 0, none⟩ := by
          obtain ⟨p, hp⟩ : ∃ p, (ptL ps.length l')[i]? = some p := ⟨_, List.getElem?_eq_getElem (by rw [← ENP.out]; exact hpos)⟩
          obtain ⟨b, c, e, -⟩ := pnO_at HPT.out hp
          injection e with e
          exact ⟨b, e⟩
        clear hbk hlen hbN hok ebl hbn hbv hC5 hP0 xI
        gi_wp2
        gi_loopw [13] (fun pv wr => ∃ dn rest : List Nat, dn ++ rest = bl ∧ (rest = [] ∨ BackL bef i rest) ∧ PaS w3 wr bMp bB bI w5.heap.size bef (bkV rest) pv (dn.map (ptG (ptL ps.length l'))) ∧ Marks w.heap.size ds wr) (fun pv _ => bl.length - lenV pv)
        case atStart => exact ⟨[], bl, rfl, .inr HBK.out, HP0.out, HM5.out⟩
        case round =>
          clear HP0
          obtain ⟨dn, rest, hdr, hbk, hP, hM⟩ := hrel
          have HP := Lib.hid hP
          have HMR := Lib.hid hM
          have HDR := Lib.hid hdr
          have xI := hP.cur.cell (k := 0) rfl
          cases rest with
          | nil =>
            replace xI : wr.cell? ⟨bI, 0, none⟩ = some (.int .i64 (-1)) := xI
            rw [List.append_nil] at hdr
            subst hdr
            clear hbk hP hM
            gi_wp2_with (refine ⟨trivial, ?_⟩; gi_at_call 63; refine (callsIn_wide.2 (Reverse_any _ _ _ _ HP.out.path HP.out.hS (by rw [List.length_map]; exact hlenN) (fun e => HNE.out (List.map_eq_nil_iff.1 e)))).mono ?_; rintro e w6 ⟨⟨uu, rfl⟩, hp6, hb6⟩; have HP6 := Lib.hid hp6; have HB6 := Lib.hid hb6; clear hp6 hb6)
            change LeavesInM _ _ _ _ _ _ _ _ _
            refine leaves_marks (B := w.heap.size) _ _ ?_ fun w2 hb3 hk3 => ?_
            · refine HMR.out.kept fun D h1 h2 ⟨d, hd, e⟩ => ?_
              obtain ⟨D', e', h3⟩ := HM5.out.lt d hd
              rw [e] at e'
              injection e' with e'
              exact (HB6.out.block D (by omega)).trans h2
            · have hz3 := HB.out.size
              have hz5 := HP.out.hB
              refine ⟨_, results_tmp2 rfl _ _ _, u13, _, rfl, ((HB.out.trans (HP.out.below.mono hz3)).trans (HB6.out.mono (Nat.le_trans hz3 hz5))).trans hb3, _, rfl, .inr (.inr ⟨EE.out.symm, by rw [← EPS.out]; exact HIN.out, .inl ⟨dn.reverse, rfl, ?_, ?_⟩⟩)⟩
              · rw [← EPS.out, ← ESN.out, ← EI.out, ← EFAC.out, EAK.out, EL.out, ← EN2.out]
                exact HOK.out
              · rw [← EPS.out, EL.out, List.map_reverse]
                exact own_mono' (own_keepRow HP6.out hk3 fun _ _ => nofun) (Nat.le_trans hz3 hz5)
          | cons k rest =>
            replace xI : wr.cell? ⟨bI, 0, none⟩ = some (.int .i64 k) := xI
            have hk0 : (0 : Int) ≤ (k : Int) := by omega
            have hkN : k < NP := HBN.out k (by rw [← hdr]; simp)
            have hkk : (k : Int) < (NP : Int) := by omega
            obtain ⟨hbn, hbr⟩ := (hbk.resolve_left (List.cons_ne_nil _ _)).next
            have HBR := Lib.hid hbr
            have HBV := Lib.hid hbn
            have x4 : wr.cell? ⟨bx, 4, none⟩ = some (.slice (some ⟨bp, 0, none⟩) (ptL ps.length l').length cp) := cell_below hP.below (HSV.out.box.cell (k := 4) rfl)
            rw [← ENP.out] at x4
            obtain ⟨b0, c0, e0, y0, y1⟩ := pnO_at HPT.out (ptL_get (by rw [← EN2.out]; exact hkN))
            injection e0 with e0 e1 e2
            injection e0 with e0
            injection e0 with e0 _
            subst e0
            have y0 := cell_below hP.below y0
            have y1 := cell_below hP.below y1
            have hpk : ptG (ptL ps.length l') k = (k / l', k % l') := ptG_get (by rw [← EN2.out]; exact hkN)
            obtain ⟨p1, ep1⟩ : ∃ p, p = k / l' := ⟨_, rfl⟩
            obtain ⟨p2, ep2⟩ : ∃ p, p = k % l' := ⟨_, rfl⟩
            rw [← ep1, ← ep2] at hpk
            rw [← ep1] at y0
            rw [← ep2] at y1
            have HPK := Lib.hid hpk
            have hmo : Try.prog.follows .mixedOrders = true := by kernel_rfl
            clear hbk hP hM hdr hbn hbr e1 e2 ep1 ep2 hpk
            gi_wp2
            have HPD := Lib.hid HP.out.drew
            have HDL : Hid (dn.length ≤ 65536) := Lib.hid (by have := congrArg List.length HDR.out; rw [List.length_append] at this; omega)
            obtain ⟨dl, edl⟩ : ∃ dl, dl = (dn.map (ptG (ptL ps.length l'))) := ⟨_, rfl⟩
            have EDL := Lib.hid edl
            have hdl : dl.length ≤ 65536 := by rw [edl, List.length_map]; exact HDL.out
            rw [← edl] at HPD
            have hbw := HPD.out.below.size
            have hsz5 : w5.heap.size ≤ wr.heap.size := HP.out.hS
            have hsz5' : w5.heap.size ≤ wr.drew.heap.size := hsz5
            clear edl
            have hcs := World.news_of_block (cs := #[.int .i64 p1, .int .i64 p2]) (t := 26) (fr := (0, 0)) (heap_alloc_new wr.drew (.cells #[.int .i64 p1, .int .i64 p2] 26))
            have hbs : w5.heap.size ≤ ((wr.alloc (.cells #[.int .i64 p1, .int .i64 p2] 26)).drew).heap.size := Nat.le_trans hsz5 (below_alloc wr (.cells #[.int .i64 p1, .int .i64 p2] 26)).size
            have HCS := Lib.hid hcs
            have HBS := Lib.hid hbs
            clear hcs hbs
            refine wpIn_wide.2 ?_
            go_region_law (obtain ⟨i0, hi, hz0, hz1, hz2⟩ := info_parts Try.infoPoint; refine step_append_own rfl (.tmp 57) (.tmp 65) 29 rfl w5.heap.size 26 i0 _ 2 16 Try.underlying29 hi hz0 hz1 hz2 rfl (by decide) u13 dl.length (crL dl) rfl (own_alloc' HPD.out.path _) ⟨wr.heap.size, 0, none⟩ 1 1 [.int .i64 p1, .int .i64 p2] rfl rfl HCS.out (by simp [Value.oneCell']) (by unfold maxLen; omega) (by omega) HBS.out ?_; intro v' w7 hown' hgrow; have HMO := Lib.hid (HPD.out.more (p := (p1, p2)) rfl hown' hgrow); have x7 := HMO.out.1.box.cell (k := 0) rfl; have x8 : w7.cell? ⟨bI, 0, none⟩ = some (.int .i64 k) := HMO.out.1.cur.cell (k := 0) rfl; have f8 := HMO.out.1.cur.frozen (k := 0); obtain ⟨nm, hnm⟩ := HMO.out.1.map; have hlk := hnm.look (k := k) (by omega) HBV.out; clear hown' hgrow hi hz0 hz1 hz2 hnm)
            all_goals (
              gi_wp2
              go_roundw
              case rel =>
                refine ⟨dn ++ [k], rest, by rw [List.append_assoc]; exact HDR.out, HBR.out, ?_, HMR.out.from ((((KeepsOthers.drew wr).trans HMO.out.2).trans (KeepsOthers.setCell _ _ _)).from 0) (Nat.zero_le _)⟩
                have h := HMO.out.1.set (bkV rest)
                rw [List.map_append, ← EDL.out]
                show PaS _ _ _ _ _ _ _ _ _ (dl ++ [ptG (ptL ps.length l') k])
                rw [HPK.out]
                exact h
              case measure =>
                have h1 := HMO.out.1.path.lenV
                have h2 := HPD.out.path.lenV
                have h3 := congrArg List.length HDR.out
                rw [List.length_append, List.length_cons] at h3
                have h4 : dl.length = dn.length := by rw [EDL.out, List.length_map]
                rw [List.length_append, List.length_singleton] at h1
                simp
                omega)
      have e51 : (!(fac j == fac i)) = false := by rw [hff]; simp
      have HFF := Lib.hid hff
      clear hff
      gi_upto_region 20 with (refine ⟨trivial, ?_⟩; gi_at_call 49; refine (callsIn_wide.2 (HHO.out _ HBZ.out _ (by first | exact hjN | exact hpos))).mono ?_; rintro e w5 ⟨rfl, hb5⟩; have HBZ := Lib.hid (below_trans HBZ.out hb5); have HBW := Lib.hid (below_trans HBW.out hb5); have xI := (HK1.out.below HBW.out).cell (k := 0) rfl; clear hb5)
      clear e51
      have hC5 := HC1.out.kept HBW.out
      have hK5 := HK1.out.below HBW.out
      have HC5 := Lib.hid hC5
      have HM5 := Lib.hid (HM1.out.below HBW.out)
      have HK5 := Lib.hid hK5
      clear hC5 hK5
      gi_wp2_with (refine ⟨trivial, ?_⟩; gi_at_call 54; refine (callsIn_wide.2 (alike_any _ _ _)).mono ?_; rintro e w' ⟨rfl, rfl⟩)
      obtain ⟨W6, hW6⟩ : ∃ W6, W6 = (w5.alloc (.cells #[.pointer (some ⟨bx, 0, none⟩)] 72)).alloc (.cells #[.int .i64 j] 3) := ⟨_, rfl⟩
      obtain ⟨hx1, hi1, hb1, hs1⟩ := two_allocs w5 _ _ _ _ W6 hW6
      rw [← hW6]
      clear hW6 xI
      have hC6 := HC5.out.kept hb1
      have hbw := hC6.below
      have hM6 := HM5.out.below hb1
      have hK6 := HK5.out.below hb1
      have hbI : bI < w5.heap.size := HK5.out.lt
      have hds : ∀ d, d ∈ ds → ∃ D, d.target = .collected D ∧ D < W6.heap.size := fun d hd => by
        obtain ⟨D, e, h⟩ := HM5.out.lt d hd
        exact ⟨D, e, by omega⟩
      have hbM : bMp < bI := by rw [EBI.out]; exact HC.out.lt
      have hbT : bT < bI := by rw [EBI.out]; exact HC.out.todo.lt
      have hqb : ∀ g', (Value.slice (some ⟨g, off, none⟩) (j :: q).length cap).ownBlock = some g' → g' < bI ∨ w5.heap.size + 2 ≤ g' := fun g' e => .inl (by rw [EBI.out]; exact (HC.out.que.lt e).2)
      have HDS := Lib.hid hds
      have HBW1 := Lib.hid hbw.size
      refine wpIn_rangeFunc_ownH rfl (by omega) (gf := 82) (lb := #[.pointer (some ⟨w5.heap.size, 0, none⟩), .pointer (some ⟨w5.heap.size + 1, 0, none⟩)]) rfl trivial (enters_of Try.func82 (by kernel_rfl) rfl)
        (alike_stops 7 (by omega) w5.heap.size (w5.heap.size + 1) bI (w5.heap.size + 2) j bx bM 2 l' ps.length c' 1 A' (lT ps) (fun _ _ => 2) (psL snd ps) (lT ps) (lF ps) (.slice Ap (ptL ps.length l').length cp) w3 W6 NP ENP.out HSV.out (by rw [← ENP.out]; exact hjN) (by omega) (by omega) hbw hx1 hi1) (fun h k => h.trans k) (KpA.put hbw.size (by omega)) (Below.refl _ _) (fun _ => rfl)
        (fun pre X => (∃ v, ChI w3 X bMp bB bT NP (befF bef j (PtI.nums pre)) (bfsF (befS bef) (j :: q) (PtI.nums pre)).2 v ∧ (∀ g', v.ownBlock = some g' → g' < bI ∨ w5.heap.size + 2 ≤ g')) ∧ (Blk X bI 3 #[.int .i64 j] ∧ w5.heap.size + 2 ≤ X.heap.size) ∧ Marks w.heap.size ds X)
        (fun _ _ _ => False)
        (OwnFrom.and (ChI.own hbw.size (by omega)) (OwnFrom.and (OwnFrom.and (ownFrom_cells fun _ _ _ hk h => h.keepRow hk) (fun _ X Y _ hs hg _ => Nat.le_trans hs hg.size)) (Marks.ownFrom hds)))
        (fun _ _ _ _ _ hs _ _ => hs)
        ⟨⟨_, hC6.congr (fun k => (befF_nil bef j k).symm), hqb⟩, ⟨hK6, by omega⟩, hM6⟩
        (fun x a' _ => a' = { tmps := #[.agg #[.int .i64 R, .slice A n c], .agg #[.int .i64 r, .int .i64 t], .pointer (some ⟨w.heap.size, 0, none⟩), .pointer (some ⟨w.heap.size + 1, 0, none⟩), .slice none 0 0, .int .i64 0, .pointer (some ⟨b6, 0, none⟩), .int .i64 0, .pointer (some ⟨bx, 0, none⟩), .int .i64 ↑i, .pointer (some ⟨bB, 0, none⟩), .pointer (some ⟨bT, 0, none⟩), .pointer (some ⟨bI, 0, none⟩), undef, .int .i64 (x.1 : Nat), undef, undef, .tuple #[.agg #[.int .i64 D.a, .int .i64 D.f, .int .i64 D.l, .slice AR D.ps.length cR], .int .i64 0], .agg #[.int .i64 R, .slice A n c], .tuple #[.agg #[.int .i64 D.a, .int .i64 D.f, .int .i64 D.l, .slice AR D.ps.length cR], .int .i64 0], .agg #[.int .i64 D.a, .int .i64 D.f, .int .i64 D.l, .slice AR D.ps.length cR], .int .i64 0, .int .i64 0, .bool false, undef, .agg #[.int .i64 D.a, .int .i64 D.f, .int .i64 D.l, .slice AR D.ps.length cR], .pointer (some ⟨bx, 0, none⟩), .pointer (some ⟨bx, 0, none⟩), .agg #[.int .i64 r, .int .i64 t], .int .i64 ↑i, .int .i64 ↑i, .bool false, .map (some bMp), .int .i64 ↑i, .map (some bMp), .int .i64 ↑i, .slice (some ⟨bQ, 0, none⟩) 1 1, .slice (some ⟨g, off, none⟩) (ql + 1) cap, .int .i64 ((ql : Int) + 1), .bool true, u40, u41, .slice (some ⟨g, off, none⟩) (ql + 1) cap, .pointer (some ⟨g, off, none⟩), .int .i64 ↑j, .pointer (some ⟨bx, 0, none⟩), .int .i64 ↑j, .bool (fac j), .pointer (some ⟨bx, 0, none⟩), .int .i64 ↑i, .bool (fac i), .bool false, undef, undef, undef, undef, undef, undef, undef, undef, undef, undef, undef, undef, undef, undef, undef, undef, undef, undef, .pointer (some ⟨bx, 0, none⟩), .int .i64 ↑j, .func (.func 82) #[] #[.pointer (some ⟨w5.heap.size, 0, none⟩), .pointer (some ⟨w5.heap.size + 1, 0, none⟩)], .int .i64 (x.1 : Nat), undef, undef, undef, undef, undef, undef, undef, undef, undef, undef, undef, undef, undef, undef, undef, u89], defers := [] })
        (fun _ _ _ _ _ _ hs _ _ => hs) ?assign ?body ?done ?stop
      case stop => exact fun _ _ _ _ _ _ h _ => h.elim
      case assign =>
        rintro l2 pre ⟨x, hx⟩ X Kx hI hK
        gi_wp2
        exact hK _ _ (KeepsFrom.refl _ _) ⟨Below.refl _ _, fun _ _ _ => rfl⟩ hI rfl
      case body =>
        rintro l2 pre ⟨x, hx⟩ a' X hl2 - ⟨⟨v, hc, hv⟩, ⟨hki, hX⟩, hmk⟩ rfl hlt
        have hmeas := bfsF_meas NP (befS bef) (j :: q) (PtI.nums pre) (fun k hk => by obtain ⟨⟨y, hy⟩, -, rfl⟩ := List.mem_map.1 hk; exact hy)
        have hsn := bfsF_snoc (befS bef) (j :: q) (PtI.nums pre) x
        rw [← PtI.nums_snoc pre ⟨x, hx⟩, befF_fst bef j] at hsn
        have hbn := fun k => befF_snoc bef j x (PtI.nums pre) k
        rw [← PtI.nums_snoc pre ⟨x, hx⟩] at hbn
        obtain ⟨bp, ebp⟩ : ∃ bp, bp = befF bef j (PtI.nums pre) := ⟨_, rfl⟩
        obtain ⟨qp, eqp⟩ : ∃ qp, qp = (bfsF (befS bef) (j :: q) (PtI.nums pre)).2 := ⟨_, rfl⟩
        rw [← ebp] at hc hsn hbn
        rw [← eqp] at hc hmeas hsn
        have EQP := Lib.hid eqp
        clear ebp eqp
        have hql : qp.length ≤ 65536 := by have := HMM.out; omega
        have x0 := hc.box.cell (k := 0) rfl
        have xI : X.cell? ⟨bI, 0, none⟩ = some (.int .i64 j) := hki.cell (k := 0) rfl
        obtain ⟨nm, hnm1, hnm⟩ := hc.map
        have hlk := hnm.look_ok (k := x) (by omega)
        have HCX := Lib.hid hc
        have HV := Lib.hid hv
        have HMK := Lib.hid hmk
        have HKI := Lib.hid hki
        have HBN := Lib.hid hbn
        clear hnm1 hnm hbn
        cases hSx : (bp x).isSome
        · obtain ⟨X1, hr1, hg1, hc1⟩ := hc.put hx hNl hSx j
          rw [hSx] at hlk
          rw [if_neg (by rw [hSx]; decide)] at hsn
          have HSN : Hid ((bfsF (befS bef) (j :: q) (PtI.nums (pre ++ [⟨x, hx⟩]))).2 = qp ++ [x]) := Lib.hid (by rw [hsn])
          have HBN2 : Hid (∀ k, (if k = x then some (j : Int) else bp k) = befF bef j (PtI.nums (pre ++ [⟨x, hx⟩])) k) := Lib.hid (fun k => by have h := HBN.out k; rw [if_neg (by rw [hSx]; decide)] at h; exact h.symm)
          have t1 : X1.cell? ⟨bT, 0, none⟩ = some v := hc1.todo.cell (k := 0) rfl
          have hsz := hc1.below.size
          have hX1 : w5.heap.size + 2 ≤ X1.heap.size := Nat.le_trans hX hg1.size
          have HG1 := Lib.hid hg1
          have HC1 := Lib.hid hc1
          have HND : Hid (∀ Q r, X.heap[Q]? = some (.deferred r) → Q ≠ bMp) := Lib.hid (fun Q r h => let ⟨_, _, hm⟩ := HCX.out.map; hm.ne_def h)
          have hbM2 : bMp < W6.heap.size := by omega
          have hwX := HCX.out.below.size
          clear hc hv hmk hki hsn hSx hmeas hg1 hc1
          gi_wp2_with (gi_at_builtin; obtain ⟨i0, hinf, hz0, hz1, hz2⟩ := info_parts Try.infoInt; refine wpListIn_append_que _ rfl _ _ 75 rfl i0 _ Try.underlying75 hinf hz0 hz1 hz2 rfl w3.heap.size v qp rfl (HC1.out.que.below (below_alloc _ _)) _ _ x rfl (by have := (Blk.new X1 #[.int .i64 x] 3).cell (k := 0) rfl; simp) hql (by simp; omega) ?_; intro v' w9 hq' hg' hn'; obtain ⟨g', off', cap', rfl⟩ := hq'.shape_snoc; obtain ⟨⟨cT, fT⟩, hcn, hkp, hko, hqn⟩ := HC1.out.more hbT HV.out hX1 rfl hq' hg' hn'; have HCN := Lib.hid hcn; have HKP := Lib.hid hkp; have HKO := Lib.hid hko; have HQN := Lib.hid hqn; clear hq' hg' hn' hcn hkp hko hqn hinf hz0 hz1 hz2)
          have hKP := (KpA.row HG1.out hwX HCX.out.hM hbM hX).trans HKP.out
          exact ⟨(keepsFrom_row HG1.out hbM2).trans (HKO.out.from _), hKP, ⟨_, by rw [HSN.out]; exact HCN.out.congr HBN2.out, HQN.out⟩, ⟨(hKP.2 bI (Nat.le_refl _) (by omega)).trans HKI.out, Nat.le_trans hX1 HKO.out.size⟩, HMK.out.kept fun Q _ h2 _ => HKO.out.same Q _ ((HG1.out.block Q (Array.getElem?_eq_some_iff.1 h2).1 (fun e => HND.out Q _ h2 (Option.some.inj e))).trans h2) rfl⟩
        · rw [hSx] at hlk
          rw [if_pos hSx] at hsn
          have HSN : Hid ((bfsF (befS bef) (j :: q) (PtI.nums (pre ++ [⟨x, hx⟩]))).2 = qp) := Lib.hid (by rw [hsn, EQP.out])
          have HBN2 : Hid (∀ k, bp k = befF bef j (PtI.nums (pre ++ [⟨x, hx⟩])) k) := Lib.hid (fun k => by have h := HBN.out k; rw [if_pos hSx] at h; exact h.symm)
          clear hc hv hmk hki hsn hSx hmeas
          gi_wp2
          exact ⟨KeepsFrom.refl _ _, ⟨Below.refl _ _, fun _ _ _ => rfl⟩, ⟨v, by rw [HSN.out]; exact HCX.out.congr HBN2.out, HV.out⟩, ⟨HKI.out, hX⟩, HMK.out⟩
      case done =>
        rintro Dm ys X hD hys ⟨⟨v, hc, hv⟩, ⟨-, hX⟩, hmk⟩ hDk
        obtain ⟨dep', r', eq', hB'⟩ := HBF.out.fold (alkL 2 (psL snd ps) (ptL ps.length l') j) (fun k hk => ⟨mem_alkL.1 hk, by rw [ENP.out]; exact alkL_lt hk⟩)
        have hB2 := hB'.pop HFF.out fun k hk => (befF_some bef j (alkL 2 (psL snd ps) (ptL ps.length l') j) k).2 (.inr (mem_alkL.2 hk))
        have hmeas := bfsF_meas NP (befS bef) (j :: q) (alkL 2 (psL snd ps) (ptL ps.length l') j) (fun k hk => by rw [ENP.out]; exact alkL_lt hk)
        have e1 : (bfsF (befS bef) (j :: q) (alkL 2 (psL snd ps) (ptL ps.length l') j)).1 = befS (befF bef j (alkL 2 (psL snd ps) (ptL ps.length l') j)) := funext fun k => befF_fst bef j _ _ k
        rw [hys, eq'] at hc
        rw [eq', e1] at hmeas
        obtain ⟨bef2, eb2⟩ : ∃ b, b = befF bef j (alkL 2 (psL snd ps) (ptL ps.length l') j) := ⟨_, rfl⟩
        rw [← eb2] at hc hB2 hmeas
        obtain ⟨g2, off2, cap2, rfl⟩ := hc.que.shape
        obtain ⟨ql2, eql2⟩ : ∃ ql, ql = r'.length := ⟨_, rfl⟩
        have t1 : X.cell? ⟨bT, 0, none⟩ = some (.slice (some ⟨g2, off2, none⟩) (ql2 + 1) cap2) := by rw [eql2]; exact hc.todo.cell (k := 0) rfl
        have HCX := Lib.hid hc
        have HMK := Lib.hid hmk
        have HDK := Lib.hid hDk
        have HB2 := Lib.hid hB2
        have HME := Lib.hid hmeas
        have EQ2 := Lib.hid eql2
        clear hc hv hmk hDk hB' hB2 hmeas eql2 eb2 e1 eq' hys
        gi_wp2
        all_goals (
          have hme := HME.out
          have hmm := HMM.out
          simp only [List.length_cons] at hme hmm
          refine ⟨unf NP (befS bef2) + r'.length, by omega, _, _, bef2, dep', r', rfl, by omega, ⟨rfl, rfl⟩, ⟨_, HCX.out.turn ?_⟩, ?_, HB2.out⟩
          · rw [EQ2.out]
            first
              | exact HCX.out.que.tail
              | (have hq := HCX.out.que; rw [‹cap2 = 1›] at hq; exact hq.tail0)
          · exact (Marks.push HMK.out (Nat.le_trans HB.out.size HBW1.out) hD HDK.out HDS.out).below (below_alloc _ _))
end Go.Proofs.Ytahaimecchdfeaa
