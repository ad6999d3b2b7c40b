/-
  Texts of this claim, one after the other: what each proves is said at its head. No condition beyond those that its theorems name.
-/
import Derived.Test.YtahaimecchdfeaaProg
import Derived.Deep.DeepCutAuto
import Derived.Deep.RegionHeld3
import Derived.Test.YtahaimecchdfeaaH01
import Derived.Test.YtahaimecchdfeaaH03
import Derived.Test.YtahaimecchdfeaaH09
import Derived.Test.YtahaimecchdfeaaH12
import Derived.Test.YtahaimecchdfeaaH15
import Derived.Test.YtahaimecchdfeaaH19
import Derived.Test.YtahaimecchdfeaaH22

/-
  Walks of package attack: Delivered.
-/
namespace Go.Proofs.Ytahaimecchdfeaa
open Go.RowKit

/-- How many of the last t digits of a history are messages. -/
def rcv (h : Nat) : Nat → Nat
  | 0 => 0
  | t + 1 => rcv h t + if h / 4 ^ t % 4 = 0 then 0 else 1
theorem rcv_le (h t : Nat) : rcv h t ≤ t := by
  induction t with
  | zero => exact Nat.le_refl _
  | succ t ih => unfold rcv; split <;> omega
/-- What the first agents have received. -/
def rcS (X : Nat → Int) : Nat → Nat
  | 0 => 0
  | g + 1 => rcS X g + rcv (X g).toNat (tmV (g : Nat) (X g)).toNat
/-- The error of Delivered, behind that of the point. -/
def delE (a : Int) (X : Nat → Int) : Nat := if a = 2 then (if tmV 0 (X 0) < 0 ∨ tmV 1 (X 1) < 0 then 3 else 0) else 3
def delF (a f l : Int) (n : Nat) (T : Nat → Nat) (m : Nat → Nat → Nat) (L : Nat → Nat → Nat → Int) (K : Nat → Nat) (F : Nat → Nat → Nat) (r t : Int) : Nat :=
  if entE a f l n T m K F r t = 0 then delE a (L r.toNat t.toNat) else entE a f l n T m K F r t
def delV (a f l : Int) (n : Nat) (T : Nat → Nat) (m : Nat → Nat → Nat) (L : Nat → Nat → Nat → Int) (K : Nat → Nat) (F : Nat → Nat → Nat) (r t : Int) : Nat :=
  if delF a f l n T m L K F r t = 0 then rcS (L r.toNat t.toNat) 2 else 0
set_option maxHeartbeats 4000000 in
set_option maxRecDepth 100000 in
theorem Delivered_any (x : Value) (a f l : Int) (n : Nat) (T : Nat → Nat) (m : Nat → Nat → Nat) (L : Nat → Nat → Nat → Int) (K : Nat → Nat) (F : Nat → Nat → Nat) (r t : Int) (w : World) (h : SysR w x a f l n T m L K F) (hn : n ≤ 65536) :
    Calls Try.prog 18 #[x, .agg #[.int .i64 r, .int .i64 t]] w fun e w' => e = .returned (.tuple #[.int .i64 (delV a f l n T m L K F r t : Nat), .int .i64 (delF a f l n T m L K F r t : Nat)]) ∧ Below w.heap.size w w' := by
  have HEN := Lib.hid (fun W (h : SysR W x a f l n T m L K F) => enter_any x a f l n T m L K F r t W h hn)
  obtain ⟨A, c, rfl, hR⟩ := h
  obtain ⟨W, hW⟩ : ∃ W, W = (w.alloc (.cells #[.int .i64 a, .int .i64 f, .int .i64 l, .slice A n c] 24)).alloc (.cells #[.int .i64 r, .int .i64 t] 26) := ⟨_, rfl⟩
  obtain ⟨k0, k1, hB⟩ := two_boxes4 w _ _ _ _ W hW
  have HB := Lib.hid hB
  have HK0 := Lib.hid k0
  have HK1 := Lib.hid k1
  have HRW := Lib.hid (hR.below hB)
  have hEN := HEN.out W ⟨A, c, rfl, hR.below hB⟩
  have d0 := k0.cell (k := 0) rfl
  have d1 := k0.cell (k := 1) rfl
  have d2 := k0.cell (k := 2) rfl
  have d3 := k0.cell (k := 3) rfl
  have p0 := k1.cell (k := 0) rfl
  have p1 := k1.cell (k := 1) rfl
  unfold EnPost at hEN
  have HDE := Lib.hid (show delF a f l n T m L K F r t = if entE a f l n T m K F r t = 0 then delE a (L r.toNat t.toNat) else entE a f l n T m K F r t from rfl)
  have HDV := Lib.hid (show delV a f l n T m L K F r t = if delF a f l n T m L K F r t = 0 then rcS (L r.toNat t.toNat) 2 else 0 from rfl)
  obtain ⟨DF, eDF⟩ : ∃ q, q = delF a f l n T m L K F r t := ⟨_, rfl⟩
  obtain ⟨DV, eDV⟩ : ∃ q, q = delV a f l n T m L K F r t := ⟨_, rfl⟩
  rw [← eDF] at HDE HDV ⊢
  rw [← eDV] at HDV ⊢
  obtain ⟨E, eE⟩ : ∃ E, E = entE a f l n T m K F r t := ⟨_, rfl⟩
  rw [← eE] at hEN HDE
  have HE1 := Lib.hid hEN
  have HW := Lib.hid hW
  clear hR hW k0 k1 hB hEN HEN eE eDF eDV
  go_enter Try.func18, Try.ntmps18
  go_upto_region 1 with (fail)
  rw [← HW.out]
  clear HW
  go_upto_region 2 with (go_at_call 41; refine HE1.out.mono ?_; rintro e w1 ⟨p, i, rfl, hb1, hok⟩; have HB := Lib.hid (below_trans HB.out hb1); have HK0 := Lib.hid (HK0.out.below hb1); have HK1 := Lib.hid (HK1.out.below hb1); have HRW := Lib.hid (HRW.out.below hb1); have HOK := Lib.hid hok; clear hb1 hok)
  clear d0 d1 d2 d3 p0 p1 HE1
  by_cases hE : E = 0
  case neg =>
    have t1 : ((E : Int) != 0) = true := by rw [bne_iff_ne]; omega
    have hC : DF = E := by rw [HDE.out, if_neg hE]
    have HC := Lib.hid hC
    have HV2 : Hid (DV = 0) := Lib.hid (by rw [HDV.out, hC, if_neg hE])
    clear hE HOK hC HDE HDV
    go_wp2_with fail
    go_ret2
    exact ⟨by rw [HV2.out, HC.out]; rfl, HB.out⟩
  subst hE
  obtain ⟨rfl, hin, hck, bx, rfl, -⟩ := HOK.out rfl
  obtain ⟨ha, -, hl, hn64, h512, -, hfr, -⟩ := chkE_ok hck
  obtain ⟨⟨hr0, hrn⟩, ht0, htl⟩ := hin
  obtain ⟨rk, rfl⟩ : ∃ N : Nat, r = N := ⟨r.toNat, by omega⟩
  obtain ⟨tk, rfl⟩ : ∃ N : Nat, t = N := ⟨t.toNat, by omega⟩
  obtain ⟨ak, rfl⟩ : ∃ N : Nat, a = N := ⟨a.toNat, by omega⟩
  have hrk : rk < n := by omega
  obtain ⟨hT1, hK1, hm1⟩ := hfr rk hrk
  have htT : tk < T rk := by omega
  have hma : m rk tk = ak := by have := hm1 tk htT; omega
  obtain ⟨g4, o4, rfl⟩ : ∃ g o, A = some ⟨g, o, none⟩ := by
    obtain ⟨g, o, _, _, e, -⟩ := HRW.out 0 (by omega)
    exact ⟨g, o, e⟩
  obtain ⟨Ax, cx, Bx, dx, y0, y1, ⟨Ry, ccy, hM⟩, -⟩ := runs_at HRW.out hrk
  obtain ⟨b1, off1, rfl, c2, -, hI⟩ := hM tk htT
  rw [hma] at c2 hI
  obtain ⟨TX, eTX⟩ : ∃ q, q = T rk := ⟨_, rfl⟩
  obtain ⟨ck, eck⟩ : ∃ q, q = ccy tk := ⟨_, rfl⟩
  obtain ⟨RR, eRR⟩ : ∃ q, q = Ry tk := ⟨_, rfl⟩
  rw [← eTX] at y0 htT
  rw [← eck, ← eRR] at c2
  rw [← eRR] at hI
  rw [Int.toNat_natCast, Int.toNat_natCast, if_pos rfl] at HDE
  rw [Int.toNat_natCast, Int.toNat_natCast] at HDV
  obtain ⟨X, eX⟩ : ∃ X, X = L rk tk := ⟨_, rfl⟩
  rw [← eX] at hI HDE HDV
  have HI := Lib.hid hI
  have hrn1 : (rk : Int) < (n : Int) := by omega
  have htT1 : (tk : Int) < (TX : Int) := by omega
  have d0 := HK0.out.cell (k := 0) rfl
  have d3 := HK0.out.cell (k := 3) rfl
  have p0 := HK1.out.cell (k := 0) rfl
  have p1 := HK1.out.cell (k := 1) rfl
  clear HOK hck hl hn64 h512 hfr hr0 ht0 htl hT1 hK1 hm1 hma hM hI eTX eck eRR eX y1 HRW hrn
  go_wp2_with fail
  go_quiet (fail)
  generalize hV : World.drewN _ _ = V2
  have HK0 : Hid (Blk V2 w.heap.size 24 #[.int .i64 ak, .int .i64 f, .int .i64 l, .slice (some ⟨g4, o4, none⟩) n c]) := by rw [← hV]; exact HK0
  have HB : Hid (Below w.heap.size w V2) := by rw [← hV]; exact Lib.hid (below_drewN HB.out _)
  have HI : Hid (I64s V2 RR ak X) := by rw [← hV]; exact HI
  have d0 : V2.cell? ⟨w.heap.size, 0, none⟩ = some (.int .i64 ak) := HK0.out.cell (k := 0) rfl
  clear hV d3 p0 p1 y0 c2
  by_cases ha2 : ak = 2
  case neg =>
    have t1 : ((ak : Int) != 2) = true := by rw [bne_iff_ne]; omega
    have hC : DF = 3 := by rw [HDE.out]; unfold delE; rw [if_neg (by omega)]
    have HC := Lib.hid hC
    have HV2 : Hid (DV = 0) := Lib.hid (by rw [HDV.out, hC, if_neg (by decide)])
    clear ha2 hC HDE HDV ha
    go_wp2_with fail
    go_ret2
    exact ⟨by rw [HV2.out, HC.out]; rfl, HB.out⟩
  subst ha2
  have HDE2 : Hid (DF = if tmV 0 (X 0) < 0 ∨ tmV 1 (X 1) < 0 then 3 else 0) := Lib.hid (by rw [HDE.out]; rfl)
  clear HDE ha
  go_wp2_with fail
  clear d0
  go_loopw [10, 40] (fun cv iv wr => ∃ g : Nat, g ≤ 2 ∧ iv = .int .i64 g ∧ cv = .int .i64 (rcS X g : Nat) ∧ Hid (∀ j, j < g → 0 ≤ tmV (j : Nat) (X j)) ∧ rcS X g ≤ 10 * g ∧ Below V2.heap.size V2 wr) (fun _ iv _ => 2 - (intOf iv).toNat)
  case atStart => exact ⟨0, Nat.zero_le _, rfl, rfl, Lib.hid fun j h => absurd h (Nat.not_lt_zero _), Nat.zero_le _, Below.refl _ _⟩
  case round =>
    obtain ⟨g, hg, rfl, rfl, HJ, hcn, hb⟩ := hrel
    have HBW := Lib.hid hb
    by_cases hlt : g < 2
    · have hgg : (g : Int) < 2 := by omega
      obtain ⟨b2, off2, rfl, c3, h3, h4⟩ := HI.out.below hb g hlt
      have HTM := Lib.hid (fun w => Time_any (g : Int) (X g) w ⟨h3, h4⟩)
      have htr := tmV_range (g : Int) (X g)
      have HY := Lib.hid (show rcS X (g + 1) = rcS X g + rcv (X g).toNat (tmV (g : Nat) (X g)).toNat from rfl)
      have HJ2 : Hid (0 ≤ tmV (g : Nat) (X g) → ∀ j, j < g + 1 → 0 ≤ tmV (j : Nat) (X j)) := Lib.hid fun h0 j hj => by
        rcases Nat.lt_succ_iff_lt_or_eq.1 hj with h1 | rfl
        · exact HJ.out j h1
        · exact h0
      have HNE : Hid (tmV (g : Nat) (X g) < 0 → DF = 3) := Lib.hid fun h0 => by
        rw [HDE2.out, if_pos]
        have : g = 0 ∨ g = 1 := by omega
        rcases this with rfl | rfl
        · exact .inl h0
        · exact .inr h0
      have hge : tmV (g : Nat) (X g) < 0 ∨ 4 ≤ X g := by
        by_cases h : X g < 4
        · left
          unfold tmV
          rw [if_pos (.inr (.inr h))]
          decide
        · right; omega
      obtain ⟨y, ey⟩ : ∃ y, y = X g := ⟨_, rfl⟩
      rw [← ey] at c3 HTM htr HY HJ2 HNE hge h3 h4
      obtain ⟨tm, etm⟩ : ∃ tm, tm = tmV (g : Nat) y := ⟨_, rfl⟩
      rw [← etm] at HTM htr HY HJ2 HNE hge
      obtain ⟨cn, ecn⟩ : ∃ cn, cn = rcS X g := ⟨_, rfl⟩
      rw [← ecn] at hcn HY ⊢
      clear ey etm ecn HJ hb
      by_cases htm : tm < 0
      · have e1 : decide (tm < 0) = true := decide_eq_true htm
        have hC := HNE.out htm
        have HC := Lib.hid hC
        have HV2 : Hid (DV = 0) := Lib.hid (by rw [HDV.out, hC, if_neg (by decide)])
        clear htm hC HNE HJ2 HY hge
        go_wp2_with (go_at_call 51; refine (HTM.out _).mono ?_; rintro e w4 ⟨rfl, rfl⟩)
        go_ret2
        exact ⟨by rw [HV2.out, HC.out]; rfl, HB.out.trans (HBW.out.mono HB.out.size)⟩
      · obtain ⟨H, rfl⟩ : ∃ H : Nat, y = H := ⟨y.toNat, by omega⟩
        obtain ⟨ts, rfl⟩ : ∃ N : Nat, tm = N := ⟨tm.toNat, by omega⟩
        have e1 : decide ((ts : Int) < 0) = false := decide_eq_false htm
        have HJ3 := Lib.hid (HJ2.out (by omega))
        rw [Int.toNat_natCast, Int.toNat_natCast] at HY
        have hts : ts ≤ 5 := by omega
        have hH : (H : Int) ≤ 9223372036854775807 := h4
        clear htm HJ2 HNE hge htr h3 h4
        go_wp2_with (go_at_call 51; refine (HTM.out _).mono ?_; rintro e w4 ⟨rfl, rfl⟩)
        clear c3 HTM
        obtain ⟨W4, eW4⟩ : ∃ V1, V1 = wr := ⟨_, rfl⟩
        subst eW4
        go_loopw [10, 12, 51] (fun cv hv sv wr2 => ∃ s q : Nat, s ≤ ts ∧ sv = .int .i64 s ∧ hv = .int .i64 q ∧ Hid (q = H / 4 ^ s) ∧ q ≤ 9223372036854775807 ∧ (∃ cc : Nat, cv = .int .i64 cc ∧ Hid (cc = cn + rcv H s) ∧ cc ≤ cn + s) ∧ Below W4.heap.size W4 wr2) (fun _ _ sv _ => ts - (intOf sv).toNat)
        case atStart => exact ⟨0, H, Nat.zero_le _, rfl, rfl, Lib.hid (by simp), by omega, ⟨cn, rfl, Lib.hid rfl, by omega⟩, Below.refl _ _⟩
        case round =>
          obtain ⟨s, q, hs, rfl, rfl, HQ, hq9, ⟨cc, rfl, HCC, hcc⟩, hb2⟩ := hrel
          have HB2 := Lib.hid hb2
          by_cases hlt2 : s < ts
          · have hss : (s : Int) < (ts : Int) := by omega
            have HQ2 : Hid (q / 4 = H / 4 ^ (s + 1)) := Lib.hid (by rw [div_pow_succ, HQ.out])
            have HR2 : Hid (rcv H (s + 1) = rcv H s + if q % 4 = 0 then 0 else 1) := Lib.hid (by rw [HQ.out]; rfl)
            clear hb2
            by_cases hq : q % 4 = 0
            · rw [if_pos hq] at HR2
              have m1 : ((q : Int).tmod 4 != 0) = false := by rw [bne_eq_false_iff_eq]; show ((q % 4 : Nat) : Int) = 0; omega
              clear HQ
              go_wp2_with fail
              go_roundw
              case rel => exact ⟨s + 1, q / 4, by omega, by go_num, by first | rfl | go_num | (congr 1; omega), HQ2, by omega, ⟨cc, rfl, Lib.hid (by have h1 := HR2.out; have h2 := HCC.out; omega), by omega⟩, HB2.out⟩
              case measure => simp [intOf]; omega
            · rw [if_neg hq] at HR2
              have m1 : ((q : Int).tmod 4 != 0) = true := by rw [bne_iff_ne]; show ((q % 4 : Nat) : Int) ≠ 0; omega
              clear HQ
              go_wp2_with fail
              go_roundw
              case rel => exact ⟨s + 1, q / 4, by omega, by go_num, by first | rfl | go_num | (congr 1; omega), HQ2, by omega, ⟨cc + 1, by go_num, Lib.hid (by have h1 := HR2.out; have h2 := HCC.out; omega), by omega⟩, HB2.out⟩
              case measure => simp [intOf]; omega
          · obtain rfl : s = ts := by omega
            have hss : ¬ (s : Int) < (s : Int) := by omega
            have HE2 : Hid (cc = rcS X (g + 1)) := Lib.hid (by rw [HY.out, HCC.out])
            clear hb2
            go_wp2_with fail
            go_roundw
            case rel => exact ⟨_, _, _, _, _, _, _, ⟨g + 1, by omega, by go_num, congrArg (fun q : Nat => Value.int .i64 (q : Int)) HE2.out, HJ3, by have h := HE2.out; omega, HBW.out.trans (HB2.out.mono HBW.out.size)⟩, rfl, rfl, rfl, rfl, rfl, rfl, rfl⟩
            case measure => simp [intOf]; omega
    · obtain rfl : g = 2 := by omega
      have hgg : ¬ ((2 : Nat) : Int) < 2 := by omega
      have hC : DF = 0 := by
        rw [HDE2.out, if_neg]
        have h0 := HJ.out 0 (by decide)
        have h1 := HJ.out 1 (by decide)
        rintro (h | h)
        · exact absurd h0 (by show ¬ (0 : Int) ≤ tmV 0 (X 0); omega)
        · exact absurd h1 (by show ¬ (0 : Int) ≤ tmV 1 (X 1); omega)
      have HC := Lib.hid hC
      have HV2 : Hid (DV = rcS X 2) := Lib.hid (by rw [HDV.out, hC, if_pos rfl])
      clear hC hb HJ
      go_wp2_with fail
      go_ret2
      exact ⟨by rw [HV2.out, HC.out]; rfl, HB.out.trans (HBW.out.mono HB.out.size)⟩
end Go.Proofs.Ytahaimecchdfeaa
