/-
  Texts of this claim, one after the other: what each proves is said at its head. No condition beyond those that its theorems name.
-/
import Derived.Test.YtahaimecchdfeaaProg
import Derived.Deep.DeepCutAuto
import Derived.Deep.RegionHeld3
import Derived.Test.YtahaimecchdfeaaH01
import Derived.Test.YtahaimecchdfeaaH02
import Derived.Test.YtahaimecchdfeaaH03
import Derived.Test.YtahaimecchdfeaaH06
import Derived.Test.YtahaimecchdfeaaH09
import Derived.Test.YtahaimecchdfeaaH12
import Derived.Test.YtahaimecchdfeaaH15
import Derived.Test.YtahaimecchdfeaaH19
import Derived.Test.YtahaimecchdfeaaH22
import Derived.Test.YtahaimecchdfeaaH23
import Derived.Test.YtahaimecchdfeaaH27
import Derived.Test.YtahaimecchdfeaaH29
import Derived.Test.YtahaimecchdfeaaH31

/-
  Walks of package attack: Verify.
-/
namespace Go.Proofs.Ytahaimecchdfeaa
open Go.RowKit

theorem SpaceOf.next {w : World} {x : Value} {a f l : Int} {n : Nat} {T : Nat → Nat} {m : Nat → Nat → Nat} {L : Nat → Nat → Nat → Int} {K : Nat → Nat} {F : Nat → Nat → Nat} {bx : Nat} (h : SpaceOf w x a f l n T m L K F bx) {i : Nat} (k : Nat) (hi : i < n * l.toNat) :
    Calls Try.prog 60 #[.pointer (some ⟨bx, 0, none⟩), .int .i64 i, .int .i64 k] w fun e w' => e = .returned (.bool (akS a l n L i k)) ∧ Below w.heap.size w w' := by
  obtain ⟨a', l', A, c, bM, vP, rfl, rfl, -, h⟩ := h
  have := next_any i k w bx bM a' l' n c f A T m L K F vP h (by rw [ptL_len]; exact hi)
  have e : akS (a' : Int) (l' : Int) n L i k = decide (k ∈ alkL a' L (ptL n l') i) := by
    unfold akS
    rw [Int.toNat_natCast, Int.toNat_natCast, Bool.eq_iff_iff, decide_eq_true_eq]
    exact mem_alkL.symm
  rw [e]
  exact this
/-- The first place of a value, or -1. -/
def ixI (m : Nat) (f : Nat → Int) (v : Int) : Int := if firstNo m (fun k => f k != v) < m then (firstNo m (fun k => f k != v) : Nat) else -1
theorem ixI_hit {m k : Nat} {f : Nat → Int} {v : Int} (hk : k < m) (h : ∀ i, i < k → f i ≠ v) (hb : f k = v) : ixI m f v = (k : Int) := by
  have e := firstNo_hit (p := fun k => f k != v) hk (fun i hi => by simpa using h i hi) (by simp [hb])
  unfold ixI; rw [e, if_pos hk]
theorem ixI_none {m : Nat} {f : Nat → Int} {v : Int} (h : ∀ i, i < m → f i ≠ v) : ixI m f v = -1 := by
  have e := firstNo_all (p := fun k => f k != v) (n := m) (fun i hi => by simpa using h i hi)
  unfold ixI; rw [e, if_neg (Nat.lt_irrefl _)]
theorem ixI_has (m : Nat) (f : Nat → Int) (v : Int) : decide (0 ≤ ixI m f v) = !allB m (fun k => f k != v) := by
  cases ha : allB m (fun k => f k != v)
  · obtain ⟨u, hu, hf⟩ := not_allB ha
    obtain ⟨i1, i2, i3⟩ := firstNo_spec m (fun k => f k != v)
    have : firstNo m (fun k => f k != v) < m := by
      rcases Nat.lt_or_ge (firstNo m (fun k => f k != v)) m with h1 | h1
      · exact h1
      · have := i2 u (by omega); rw [hf] at this; cases this
    unfold ixI; rw [if_pos this]; simp
  · rw [ixI_none fun i hi => by simpa using allB_iff.1 ha i hi]; rfl
theorem nIndex_any (A : Option Addr) (m c : Nat) (f : Nat → Int) (v : Int) (w : World) (hT : I64s w A m f) (hm : m ≤ 65536) :
    Calls Try.prog 84 #[.slice A m c, .int .i64 v] w fun e w' => e = .returned (.int .i64 (ixI m f v)) ∧ Below w.heap.size w w' := by
  have HT := Lib.hid hT
  clear hT
  go_enter Try.func84, Try.ntmps84
  go_wp2
  go_loop [8] (fun i => ∃ j : Nat, j ≤ m ∧ i = .int .i64 j ∧ Hid (∀ i, i < j → f i ≠ v)) (fun i => m - (intOf i).toNat)
  case atStart => exact ⟨0, Nat.zero_le _, rfl, Lib.hid fun i h => absurd h (Nat.not_lt_zero _)⟩
  case round =>
    obtain ⟨j, hj, rfl, HF⟩ := hrel
    by_cases hlt : j < m
    · have hjj : (j : Int) < (m : Int) := by omega
      obtain ⟨b, off, rfl, c1, -⟩ := HT.out j hlt
      obtain ⟨y, ey⟩ : ∃ y, y = f j := ⟨_, rfl⟩
      rw [← ey] at c1
      by_cases hy : v = y
      · subst hy
        have HI := Lib.hid (ixI_hit hlt HF.out ey.symm)
        clear ey
        go_wp2
        go_ret
        exact ⟨by rw [HI.out]; rfl, Below.refl _ _⟩
      · have hb : (v == y) = false := by rw [beq_eq_false_iff_ne]; exact hy
        have HF2 : Hid (∀ i, i < j + 1 → f i ≠ v) := Lib.hid fun i h => by
          rcases Nat.lt_succ_iff_lt_or_eq.1 h with h3 | rfl
          · exact HF.out i h3
          · rw [← ey]; exact fun e => hy e.symm
        clear ey hy
        go_wp2
        go_round
        case rel => exact ⟨j + 1, by omega, by go_num, HF2⟩
        case measure => simp [intOf]; omega
    · obtain rfl : j = m := by omega
      have hjj : ¬ (j : Int) < (j : Int) := by omega
      have HI := Lib.hid (ixI_none HF.out)
      go_wp2
      go_ret
      exact ⟨by rw [HI.out]; rfl, Below.refl _ _⟩
theorem nContains_any (A : Option Addr) (m c : Nat) (f : Nat → Int) (v : Int) (w : World) (hT : I64s w A m f) (hm : m ≤ 65536) :
    Calls Try.prog 59 #[.slice A m c, .int .i64 v] w fun e w' => e = .returned (.bool (!allB m (fun k => f k != v))) ∧ Below w.heap.size w w' := by
  have HI := Lib.hid (nIndex_any A m c f v w hT hm)
  have HE := Lib.hid (ixI_has m f v)
  clear hT
  go_enter Try.func59, Try.ntmps59
  go_wp2_with (go_at_call 84; refine HI.out.mono ?_; rintro e w1 ⟨rfl, hb1⟩; have HB := Lib.hid hb1; clear hb1)
  go_ret
  exact ⟨by rw [← HE.out]; rfl, HB.out⟩

/-- The links of a chain up to a place. -/
def lnk (a l : Int) (n : Nat) (L : Nat → Nat → Nat → Int) (f : Nat → Int) (j : Nat) : Bool := allB j fun i => i == 0 || akS a l n L (f (i - 1)).toNat (f i).toNat
/-- What Verify answers, for the numbers of the points. -/
def verN (a l : Int) (n : Nat) (L : Nat → Nat → Nat → Int) (F : Nat → Nat → Nat) (m : Nat) (f : Nat → Int) : Nat :=
  if m = 0 ∨ allB m (fun k => f k != -1) = false then 3 else if lnk a l n L f m then (if facK F n l 0 (f 0).toNat = facK F n l 0 (f (m - 1)).toNat then 13 else 0) else 13
def verV (R : Int) (n : Nat) (fa fh fm : Nat → Int) (m : Nat) (X Y : Nat → Int) : Nat :=
  if losE R n fa fh fm = 0 then
    verN 2 (R + 1) (losRs (sndV n fa fh fm) R.toNat).length (psL (sndV n fa fh fm) (losRs (sndV n fa fh fm) R.toNat)) (lF (losRs (sndV n fa fh fm) R.toNat)) m (fun k => ixP (ptL (losRs (sndV n fa fh fm) R.toNat).length (R + 1).toNat) (X k) (Y k))
  else losE R n fa fh fm
set_option maxHeartbeats 4000000 in
set_option maxRecDepth 100000 in
theorem Verify_any (R : Int) (A : Option Addr) (n c : Nat) (fa fh fm : Nat → Int) (B : Option Addr) (m d : Nat) (X Y : Nat → Int) (w : World) (hx : RuleS w A n fa fh fm) (hn : n ≤ 9223372036854775807) (hy : CrS w B m X Y) (hm : m ≤ 65536) :
    Calls Try.prog 23 #[.agg #[.int .i64 R, .slice A n c], .slice B m d] w fun e w' => e = .returned (.int .i64 (verV R n fa fh fm m X Y : Nat)) ∧ Below w.heap.size w w' := by
  have HLO := Lib.hid (fun W (h : RuleS W A n fa fh fm) => Lossy_any R A n c fa fh fm W h hn)
  have HVV := Lib.hid (show verV R n fa fh fm m X Y = if losE R n fa fh fm = 0 then verN 2 (R + 1) (losRs (sndV n fa fh fm) R.toNat).length (psL (sndV n fa fh fm) (losRs (sndV n fa fh fm) R.toNat)) (lF (losRs (sndV n fa fh fm) R.toNat)) m (fun k => ixP (ptL (losRs (sndV n fa fh fm) R.toNat).length (R + 1).toNat) (X k) (Y k)) else losE R n fa fh fm from rfl)
  have HLS := Lib.hid (fun (w : World) base x (h : (losD R n fa fh fm).owned w base x) (hE : losE R n fa fh fm = 0) => los_sys h hE)
  obtain ⟨E, eE⟩ : ∃ E, E = losE R n fa fh fm := ⟨_, rfl⟩
  obtain ⟨DD, eD⟩ : ∃ E, E = losD R n fa fh fm := ⟨_, rfl⟩
  obtain ⟨V, eV⟩ : ∃ E, E = verV R n fa fh fm m X Y := ⟨_, rfl⟩
  rw [← eE] at HLO HVV HLS
  rw [← eD] at HLO HLS
  rw [← eV] at HVV ⊢
  have HB := Lib.hid (below_alloc w (.cells #[.int .i64 R, .slice A n c] 43))
  have hbk := Blk.new w #[.int .i64 R, .slice A n c] 43
  have d0 := hbk.cell (k := 0) rfl
  have d1 := hbk.cell (k := 1) rfl
  have hlo := HLO.out _ (hx.below HB.out)
  unfold SysPost at hlo
  have HY := Lib.hid (hy.below HB.out)
  have HL1 := Lib.hid hlo
  clear hbk hx hy hlo HLO eE eD eV
  go_enter Try.func23, Try.ntmps23
  go_upto_region 1 with (fail)
  generalize w.alloc (.cells #[.int .i64 R, .slice A n c] 43) = W at HB d0 d1 HY HL1 ⊢
  go_upto_region 2 with (go_at_call 27; refine HL1.out.mono ?_; rintro e w1 ⟨x, rfl, hown, hb1⟩; obtain ⟨vR, rfl, hro⟩ := hown; obtain ⟨AR, cR, rfl⟩ := runsO_shape hro; have HB := Lib.hid (below_trans HB.out hb1); have HY := Lib.hid (HY.out.below hb1); have HRO := Lib.hid hro; clear hb1 hro)
  clear d0 d1 HL1
  have hba := below_alloc w1 (.cells #[.int .i64 DD.a, .int .i64 DD.f, .int .i64 DD.l, .slice AR DD.ps.length cR] 24)
  have hbk := Blk.new w1 #[.int .i64 DD.a, .int .i64 DD.f, .int .i64 DD.l, .slice AR DD.ps.length cR] 24
  have HB := Lib.hid (below_trans HB.out hba)
  have HY := Lib.hid (HY.out.below hba)
  obtain ⟨W2, eW2⟩ : ∃ W2, W2 = w1.alloc (.cells #[.int .i64 DD.a, .int .i64 DD.f, .int .i64 DD.l, .slice AR DD.ps.length cR] 24) := ⟨_, rfl⟩
  rw [← eW2] at hba hbk HB HY ⊢
  obtain ⟨bS, ebS⟩ : ∃ b, b = w1.heap.size := ⟨_, rfl⟩
  rw [← ebS] at hbk ⊢
  clear eW2 ebS
  by_cases hE : E = 0
  case neg =>
    have t1 : ((E : Int) != 0) = true := by rw [bne_iff_ne]; omega
    have HV2 : Hid (V = E) := Lib.hid (by rw [HVV.out, if_neg hE])
    clear hE HVV HLS hbk hba
    go_wp2_with fail
    go_ret
    exact ⟨by rw [HV2.out]; rfl, HB.out⟩
  subst hE
  obtain ⟨hls, hlc, hlp, hR, -⟩ := HLS.out w1 _ _ ⟨_, rfl, HRO.out⟩ rfl
  have hls2 := hls.below hba
  obtain ⟨A2, c2, ex, -⟩ := hls
  have ex2 : (DD.a = 2 ∧ DD.f = 1 ∧ DD.l = R + 1) ∧ AR = A2 ∧ DD.ps.length = (losRs (sndV n fa fh fm) R.toNat).length ∧ cR = c2 := by
    injection ex with ex
    injection ex with ex
    injection ex with e1 ex
    injection ex with e2 ex
    injection ex with e3 ex
    injection ex with e4 ex
    injection e1 with _ e1
    injection e2 with _ e2
    injection e3 with _ e3
    injection e4 with e4 e5 e6
    exact ⟨⟨e1, e2, e3⟩, e4, e5, e6⟩
  obtain ⟨⟨e1, e2, e3⟩, rfl, e5, rfl⟩ := ex2
  rw [e1, e2, e3, e5] at hls2 hbk ⊢
  rw [if_pos rfl] at HVV
  obtain ⟨ps, eps⟩ : ∃ ps, ps = losRs (sndV n fa fh fm) R.toNat := ⟨_, rfl⟩
  rw [← eps] at hls2 hlc hlp HVV hbk ⊢
  have hN64 := hlp.len.2
  have HOP := Lib.hid (openS_any _ 2 1 (R + 1) ps.length (lT ps) (fun _ _ => 2) (psL (sndV n fa fh fm) ps) (lT ps) (lF ps) W2 hls2 (by omega) hlc)
  obtain ⟨N, eN⟩ : ∃ N, N = ps.length := ⟨_, rfl⟩
  rw [← eN] at HOP HVV hbk hN64 ⊢
  have q0 := hbk.cell (k := 0) rfl
  have q1 := hbk.cell (k := 1) rfl
  have q2 := hbk.cell (k := 2) rfl
  have q3 := hbk.cell (k := 3) rfl
  clear ex e1 e2 e3 e5 hls2 hlc hlp hba hbk HLS eps eN HRO
  go_upto_region 5 with (go_at_call 57; refine HOP.out.mono ?_; rintro e w2 ⟨bx, rfl, hsp, hb1⟩; have HB := Lib.hid (below_trans HB.out hb1); have HY := Lib.hid (HY.out.below hb1); have HSP := Lib.hid hsp; clear hb1 hsp)
  clear q0 q1 q2 q3 HOP
  obtain ⟨pts, epts⟩ : ∃ pts, pts = ptL N (R + 1).toNat := ⟨_, rfl⟩
  have HIX : Hid (∀ X, Below w2.heap.size w2 X → ∀ r t, Calls Try.prog 58 #[.pointer (some ⟨bx, 0, none⟩), .agg #[.int .i64 r, .int .i64 t]] X fun e w' => e = .returned (.int .i64 (ixP pts r t)) ∧ Below X.heap.size X w') := Lib.hid (fun X hX r t => by rw [epts]; exact (HSP.out.below hX).index r t)
  obtain ⟨ix, eix⟩ : ∃ ix : Nat → Int, ix = fun k => ixP pts (X k) (Y k) := ⟨_, rfl⟩
  have hix : ∀ k, ix k = -1 ∨ (0 ≤ ix k ∧ ix k < (N * (R + 1).toNat : Nat)) := fun k => by
    rw [eix, epts]
    dsimp only
    by_cases h : inP N (R + 1).toNat (X k) (Y k)
    · right
      rw [ixP_in h]
      have := pos_lt (n := N) (l := (R + 1).toNat) (r := (X k).toNat) (t := (Y k).toNat) (by obtain ⟨⟨h1, h2⟩, h3, h4⟩ := h; omega) (by obtain ⟨⟨h1, h2⟩, h3, h4⟩ := h; omega)
      omega
    · exact .inl (ixP_out h)
  rw [← epts, ← eix] at HVV
  have HIXE : Hid (∀ k, ixP pts (X k) (Y k) = ix k) := Lib.hid (fun k => by rw [eix])
  have HIB := Lib.hid hix
  have hR5 : N * (R + 1).toNat ≤ 1024 := Nat.le_trans (Nat.mul_le_mul hN64 (show (R + 1).toNat ≤ 5 by omega)) (by decide)
  obtain ⟨M, eM⟩ : ∃ M, M = N * (R + 1).toNat := ⟨_, rfl⟩
  have EM := Lib.hid eM
  rw [← eM] at HIB hR5
  clear epts eix hix eM hR hN64
  go_wp2_with fail
  go_loopw [8, 24] (fun lv jv wr => ∃ j : Nat, j ≤ m ∧ jv = .int .i64 j ∧ wr.ownsRow w2.heap.size 3 1 lv j (i64L ix j) ∧ Below w2.heap.size w2 wr) (fun _ jv _ => m - (intOf jv).toNat)
  case atStart => exact ⟨0, Nat.zero_le _, rfl, World.ownsRow_nil _ _ _ _, Below.refl _ _⟩
  case round =>
    obtain ⟨j, hj, rfl, ho, hb⟩ := hrel
    have HBW := Lib.hid hb
    by_cases hlt : j < m
    · have hjj : (j : Int) < (m : Int) := by omega
      obtain ⟨b, off, rfl, c1, c2, -, -⟩ := HY.out.below hb j hlt
      have HIJ := Lib.hid (HIXE.out j)
      obtain ⟨x, ex⟩ : ∃ x, x = X j := ⟨_, rfl⟩
      obtain ⟨y, ey⟩ : ∃ y, y = Y j := ⟨_, rfl⟩
      rw [← ex] at c1 HIJ
      rw [← ey] at c2 HIJ
      have HO := Lib.hid ho
      have hba := below_alloc wr (.cells #[.int .i64 x, .int .i64 y] 26)
      have hbk := Blk.new wr #[.int .i64 x, .int .i64 y] 26
      have HSU := Lib.hid (i64L_succ ix j)
      clear ho hb ex ey
      go_upto_region 9 with (fail)
      obtain ⟨W4, eW4⟩ : ∃ W4, W4 = wr.alloc (.cells #[.int .i64 x, .int .i64 y] 26) := ⟨_, rfl⟩
      rw [← eW4] at hba hbk ⊢
      have x0 := hbk.cell (k := 0) rfl
      have x1 := hbk.cell (k := 1) rfl
      have HB4 := Lib.hid (below_trans HBW.out hba)
      have HO4 := Lib.hid (own_below' HO.out hba (Nat.le_refl _))
      have HI4 := Lib.hid (HIX.out W4 HB4.out x y)
      rw [HIJ.out] at HI4
      obtain ⟨z, ez⟩ : ∃ z, z = ix j := ⟨_, rfl⟩
      rw [← ez] at HI4 HSU
      obtain ⟨ys, eys⟩ : ∃ ys, ys = i64L ix j := ⟨_, rfl⟩
      rw [← eys] at HO4 HSU
      clear hba hbk eW4 c1 c2 ez eys HO HIJ
      go_wp2_with (first
        | (go_at_call 58; refine HI4.out.mono ?_; rintro e w5 ⟨rfl, hb1⟩; have HB5 := Lib.hid (below_trans HB4.out hb1); have HO5 := Lib.hid (own_below' HO4.out hb1 (Nat.le_refl _)); have hsz5 := HB5.out.size; clear hb1)
        | (at_builtin; obtain ⟨i0, hi, hz0, hz1, hz2⟩ := info_parts Try.infoInt; refine wpList_append_own_at _ rfl _ _ 75 rfl w2.heap.size 3 i0 _ 1 8 Try.underlying75 hi hz0 hz1 hz2 rfl (by decide) _ _ _ rfl (own_alloc' HO5.out _) ⟨w5.heap.size, 0, none⟩ 1 1 [.int .i64 z] rfl rfl (World.news_of_block (cs := #[.int .i64 z]) (t := 3) (fr := (0, 0)) (heap_alloc_new w5 _)) (by simp [Value.oneCell']) (by unfold maxLen; omega) (by omega) (by simp; omega) ?_; intro v' w6 hown' hgrow _ _; have HOW3 := Lib.hid hown'; have HB6 := Lib.hid (below_append HB5.out rfl HO5.out hgrow); clear hown' hgrow hi hz0 hz1 hz2))
      go_roundw
      case rel => exact ⟨j + 1, by omega, by go_num, by rw [HSU.out]; exact HOW3.out, HB6.out⟩
      case measure => simp [intOf]; omega
    · obtain rfl : m = j := by omega
      have hjj : ¬ (m : Int) < (m : Int) := by omega
      obtain ⟨Al, cl, rfl, hI⟩ := own_i64s ho fun u _ => by rcases HIB.out u with h | h <;> omega
      have HI := Lib.hid hI
      have HSP := Lib.hid (HSP.out.below hb)
      clear ho hb hI HIX HIXE HY
      have HCT := Lib.hid (nContains_any Al m cl ix (-1) wr HI.out hm)
      obtain ⟨bv, ebv⟩ : ∃ bv, bv = allB m (fun k => ix k != -1) := ⟨_, rfl⟩
      rw [← ebv] at HCT
      have EBV := Lib.hid ebv
      have HVE := Lib.hid (show verN 2 (R + 1) N (psL (sndV n fa fh fm) ps) (lF ps) m ix = if m = 0 ∨ allB m (fun k => ix k != -1) = false then 3 else if lnk 2 (R + 1) N (psL (sndV n fa fh fm) ps) ix m then (if facK (lF ps) N (R + 1) 0 (ix 0).toNat = facK (lF ps) N (R + 1) 0 (ix (m - 1)).toNat then 13 else 0) else 13 from rfl)
      rw [← EBV.out] at HVE
      rw [HVE.out] at HVV
      clear ebv HVE
      by_cases hm0 : m = 0
      · have t1 : ((m : Int) == 0) = true := by rw [beq_iff_eq]; omega
        have HV2 : Hid (V = 3) := Lib.hid (by rw [HVV.out, if_pos (.inl hm0)])
        clear hm0 HCT HVV
        go_wp2_with fail
        go_ret
        exact ⟨by rw [HV2.out]; rfl, HB.out.trans (HBW.out.mono HB.out.size)⟩
      have t1 : ((m : Int) == 0) = false := by rw [beq_eq_false_iff_ne]; omega
      cases bv
      · have HV2 : Hid (V = 3) := Lib.hid (by rw [HVV.out, if_pos (.inr rfl)])
        clear hm0 HVV
        go_wp2_with (go_at_call 59; refine HCT.out.mono ?_; rintro e w5 ⟨rfl, hb1⟩; have HB5 := Lib.hid (below_trans HBW.out hb1); clear hb1)
        go_ret
        exact ⟨by rw [HV2.out]; rfl, HB.out.trans (HB5.out.mono HB.out.size)⟩
      have HV3 : Hid (V = if lnk 2 (R + 1) N (psL (sndV n fa fh fm) ps) ix m then (if facK (lF ps) N (R + 1) 0 (ix 0).toNat = facK (lF ps) N (R + 1) 0 (ix (m - 1)).toNat then 13 else 0) else 13) := Lib.hid (by rw [HVV.out, if_neg (by rintro (h | h); exact hm0 h; cases h)])
      have hall : ∀ k, k < m → ∃ q : Nat, ix k = q ∧ q < M := fun k hk => by
        have h1 := allB_iff.1 EBV.out.symm k hk
        have h2 : ix k ≠ -1 := by simpa using h1
        rcases HIB.out k with h | h
        · exact absurd h h2
        · exact ⟨(ix k).toNat, by omega, by omega⟩
      have HALL := Lib.hid hall
      clear HVV hall
      go_upto_region 13 with (go_at_call 59; refine HCT.out.mono ?_; rintro e w5 ⟨rfl, hb1⟩; have HBW5 := Lib.hid (below_trans HBW.out hb1); have HI := Lib.hid (HI.out.below hb1); have HSP := Lib.hid (HSP.out.below hb1); clear hb1)
      clear t1 HCT
      obtain ⟨W5, eW5⟩ : ∃ V1, V1 = w5 := ⟨_, rfl⟩
      subst eW5
      go_wp2_with fail
      go_loopw [11] (fun jv wr2 => ∃ i : Nat, i + 1 ≤ m ∧ jv = .int .i64 ((i : Int) + 1) ∧ Hid (lnk 2 (R + 1) N (psL (sndV n fa fh fm) ps) ix (i + 1) = true) ∧ Below W5.heap.size W5 wr2) (fun jv _ => m - (intOf jv).toNat)
      case atStart => exact ⟨0, by omega, rfl, Lib.hid (by unfold lnk; rw [allB_iff]; intro u hu; have h0 : u = 0 := (by omega); rw [h0]; simp), Below.refl _ _⟩
      case round =>
        obtain ⟨i, hi, rfl, HL, hb⟩ := hrel
        have HB6 := Lib.hid hb
        by_cases hlt : i + 1 < m
        · have hjj : (i : Int) + 1 < (m : Int) := by omega
          have hj1 : (i : Int) < (m : Int) := by omega
          have hw : IntKind.i64.wrap ((i : Int) + 1 - 1) = (i : Int) := by rw [IntKind.wrap_i64]; omega
          obtain ⟨bl, ol, rfl, c1, -⟩ := HI.out.below hb i (by omega)
          obtain ⟨bl', ol', el, c2, -⟩ := HI.out.below hb (i + 1) hlt
          injection el with el
          injection el with el1 el2
          subst el1 el2
          obtain ⟨p, ep, hp⟩ := HALL.out i (by omega)
          obtain ⟨q, eq, hq⟩ := HALL.out (i + 1) hlt
          rw [ep] at c1
          rw [eq] at c2
          have hln : lnk 2 (R + 1) N (psL (sndV n fa fh fm) ps) ix (i + 1 + 1) = akS 2 (R + 1) N (psL (sndV n fa fh fm) ps) p q := by
            have h1 : lnk 2 (R + 1) N (psL (sndV n fa fh fm) ps) ix (i + 1 + 1) = (lnk 2 (R + 1) N (psL (sndV n fa fh fm) ps) ix (i + 1) && (i + 1 == 0 || akS 2 (R + 1) N (psL (sndV n fa fh fm) ps) (ix (i + 1 - 1)).toNat (ix (i + 1)).toNat)) := by
              unfold lnk allB
              rw [List.range_succ, List.all_append]
              simp
            rw [h1, HL.out, Nat.add_sub_cancel, ep, eq, Int.toNat_natCast, Int.toNat_natCast]
            simp
          have HNX := Lib.hid (fun X (hX : Below wr.heap.size wr X) => ((HSP.out.below hb).below hX).next q (by rw [← EM.out]; exact hp))
          obtain ⟨b, eb⟩ : ∃ b, b = akS 2 (R + 1) N (psL (sndV n fa fh fm) ps) p q := ⟨_, rfl⟩
          rw [← eb] at HNX hln
          have HLN := Lib.hid hln
          have HNO : Hid (b = false → V = 13) := Lib.hid fun h0 => by
            rw [HV3.out, if_neg]
            intro h1
            unfold lnk at h1
            have h2 := allB_iff.1 h1 (i + 1) hlt
            rw [Nat.add_sub_cancel, ep, eq, Int.toNat_natCast, Int.toNat_natCast, ← eb, h0] at h2
            simp at h2
          have c1o : ol + i < ol + m := by omega
          have c2 : wr.cell? ⟨bl, ol + (i + 1), none⟩ = some (.int .i64 (q : Nat)) := c2
          have HSOF := Lib.hid (fun (z : World) (h : Below wr.heap.size wr z) => (⟨h, cell_below h c1, cell_below h c2⟩ : Below wr.heap.size wr z ∧ z.cell? ⟨bl, ol + i, none⟩ = some (.int .i64 (p : Nat)) ∧ z.cell? ⟨bl, ol + (i + 1), none⟩ = some (.int .i64 (q : Nat))))
          have hb0 := Below.refl wr.heap.size wr
          have tok1 : True := trivial
          have hi0 : (0 : Int) ≤ (i : Int) := by omega
          have hw2 : IntKind.i64.wrap (i : Int) = (i : Int) := by rw [IntKind.wrap_i64]; omega
          have hi1 : (0 : Int) ≤ (i : Int) + 1 := by omega
          clear hb ep eq hln eb c1 c2 c1o HL
          cases b
          · have HV4 := Lib.hid (HNO.out rfl)
            clear HNO
            go_upto_region 16 with (fail)
            go_region_held3 (fun z => Below wr.heap.size wr z ∧ z.cell? ⟨bl, ol + i, none⟩ = some (.int .i64 (p : Nat)) ∧ z.cell? ⟨bl, ol + (i + 1), none⟩ = some (.int .i64 (q : Nat))) (first | exact HSOF.out _ (by assumption) | exact HSOF.out _ (below_drew hb0) | exact HSOF.out _ (below_trans (And.left (by assumption)) (by assumption)))
              ((go_at_call 60; refine (HNX.out _ (And.left (by assumption))).mono ?_; rintro e w7 ⟨rfl, hb1⟩; have HB7 := below_trans (And.left (by assumption)) hb1; clear hb1))
            all_goals (
              have hbz := And.left (by assumption : Below wr.heap.size wr _ ∧ _)
              go_wp2_with fail
              go_ret
              exact ⟨by rw [HV4.out]; rfl, below_trans HB.out (below_trans HBW5.out (below_trans HB6.out hbz))⟩)
          · clear HNO
            go_upto_region 16 with (fail)
            go_region_held3 (fun z => Below wr.heap.size wr z ∧ z.cell? ⟨bl, ol + i, none⟩ = some (.int .i64 (p : Nat)) ∧ z.cell? ⟨bl, ol + (i + 1), none⟩ = some (.int .i64 (q : Nat))) (first | exact HSOF.out _ (by assumption) | exact HSOF.out _ (below_drew hb0) | exact HSOF.out _ (below_trans (And.left (by assumption)) (by assumption)))
              ((go_at_call 60; refine (HNX.out _ (And.left (by assumption))).mono ?_; rintro e w7 ⟨rfl, hb1⟩; have HB7 := below_trans (And.left (by assumption)) hb1; clear hb1))
            all_goals (
              have hbz := And.left (by assumption : Below wr.heap.size wr _ ∧ _)
              go_wp2_with fail
              go_roundw
              case rel => exact ⟨i + 1, by omega, by go_num, Lib.hid (by rw [HLN.out]), below_trans HB6.out hbz⟩
              case measure => simp [intOf]; omega)
        · obtain rfl : m = i + 1 := by omega
          have hjj : ¬ (i : Int) + 1 < ((i + 1 : Nat) : Int) := by omega
          have hjj2 : ¬ (i : Int) + 1 < (i : Int) + 1 := by omega
          obtain ⟨bl, ol, rfl, c1, -⟩ := HI.out.below hb 0 (by omega)
          obtain ⟨bl', ol', el, c2, -⟩ := HI.out.below hb i (by omega)
          injection el with el
          injection el with el1 el2
          subst el1 el2
          obtain ⟨p, ep, hp⟩ := HALL.out 0 (by omega)
          obtain ⟨q, eq, hq⟩ := HALL.out i (by omega)
          rw [ep] at c1
          rw [eq] at c2
          rw [Nat.add_zero] at c1
          have hV := HV3.out
          rw [if_pos HL.out, Nat.add_sub_cancel, ep, eq, Int.toNat_natCast, Int.toNat_natCast] at hV
          have HHO := Lib.hid (fun X (hX : Below wr.heap.size wr X) (k : Nat) (hk : k < M) => (((HSP.out.below hb).below hX).holds (i := k) (fc := 0) (by rw [← EM.out]; exact hk) (by decide)))
          have hho : ∀ X, Below wr.heap.size wr X → ∀ k, k < M → Calls Try.prog 49 #[.pointer (some ⟨bx, 0, none⟩), .int .i64 k, .int .i64 0] X fun e w' => e = .returned (.bool (facK (lF ps) N (R + 1) 0 k)) ∧ Below X.heap.size X w' := fun X hX k hk => HHO.out X hX k hk
          have HH := Lib.hid hho
          obtain ⟨u, eu⟩ : ∃ u, u = facK (lF ps) N (R + 1) 0 p := ⟨_, rfl⟩
          obtain ⟨v, ev⟩ : ∃ u, u = facK (lF ps) N (R + 1) 0 q := ⟨_, rfl⟩
          rw [← eu, ← ev] at hV
          have HV4 := Lib.hid hV
          have EU := Lib.hid eu
          have EV := Lib.hid ev
          have hw : IntKind.i64.wrap ((i : Int) + 1 - 1) = (i : Int) := by rw [IntKind.wrap_i64]; omega
          have hw2 : IntKind.i64.wrap (i : Int) = (i : Int) := by rw [IntKind.wrap_i64]; omega
          have hi0 : (0 : Int) ≤ (i : Int) := by omega
          have hi2 : (0 : Int) < (i : Int) + 1 := by omega
          have hi3 : (i : Int) < (i : Int) + 1 := by omega
          have HSOF := Lib.hid (fun (z : World) (h : Below wr.heap.size wr z) => (⟨h, cell_below h c1, cell_below h c2⟩ : Below wr.heap.size wr z ∧ z.cell? ⟨bl, ol, none⟩ = some (.int .i64 (p : Nat)) ∧ z.cell? ⟨bl, ol + i, none⟩ = some (.int .i64 (q : Nat))))
          have hb0 := Below.refl wr.heap.size wr
          have tok1 : True := trivial
          clear hb ep eq c1 c2 HL eu ev hV hho HHO
          go_upto_region 18 with (fail)
          go_region_held3 (fun z => Below wr.heap.size wr z ∧ z.cell? ⟨bl, ol, none⟩ = some (.int .i64 (p : Nat)) ∧ z.cell? ⟨bl, ol + i, none⟩ = some (.int .i64 (q : Nat))) (first | exact HSOF.out _ (by assumption) | exact HSOF.out _ (below_drew hb0) | exact HSOF.out _ (below_trans (And.left (by assumption)) (by assumption)))
            ((go_at_call 49; refine (HH.out _ (And.left (by assumption)) _ (by first | exact hp | exact hq)).mono ?_; rintro e w7 ⟨rfl, hb1⟩; have HB7 := below_trans (And.left (by assumption)) hb1; clear hb1))
          have hbz := And.left (by assumption : Below wr.heap.size wr _ ∧ _)
          have HZ := Lib.hid (below_trans HB.out (below_trans HBW5.out (below_trans HB6.out hbz)))
          clear hbz
          rw [← EU.out, ← EV.out]
          clear EU EV
          cases u
          · cases v
            · have HV5 : Hid (V = 13) := Lib.hid (by rw [HV4.out]; rfl)
              go_wp2_with fail
              go_ret
              exact ⟨by rw [HV5.out]; rfl, HZ.out⟩
            · have HV5 : Hid (V = 0) := Lib.hid (by rw [HV4.out]; rfl)
              go_wp2_with fail
              go_ret
              exact ⟨by rw [HV5.out]; rfl, HZ.out⟩
          · cases v
            · have HV5 : Hid (V = 0) := Lib.hid (by rw [HV4.out]; rfl)
              go_wp2_with fail
              go_ret
              exact ⟨by rw [HV5.out]; rfl, HZ.out⟩
            · have HV5 : Hid (V = 13) := Lib.hid (by rw [HV4.out]; rfl)
              go_wp2_with fail
              go_ret
              exact ⟨by rw [HV5.out]; rfl, HZ.out⟩
end Go.Proofs.Ytahaimecchdfeaa
