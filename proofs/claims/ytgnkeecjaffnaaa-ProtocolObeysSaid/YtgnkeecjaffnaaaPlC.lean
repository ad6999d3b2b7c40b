/-
  Walks: the law ProtocolObeys.
-/
import Derived.Test.YtgnkeecjaffnaaaProg
import Derived.Test.YtgnkeecjaffnaaaBase
import Derived.Test.YtgnkeecjaffnaaaRow
import Derived.Test.YtgnkeecjaffnaaaRowsOf
import Derived.Test.YtgnkeecjaffnaaaPc
import Derived.Test.YtgnkeecjaffnaaaPd
import Derived.Test.YtgnkeecjaffnaaaPrB
import Derived.Test.YtgnkeecjaffnaaaPrE
import Derived.Test.YtgnkeecjaffnaaaPrG
import Derived.Test.YtgnkeecjaffnaaaPrI
import Derived.Test.YtgnkeecjaffnaaaPrL
import Derived.Test.YtgnkeecjaffnaaaPrN
import Derived.Test.YtgnkeecjaffnaaaPrQ
import Derived.Test.YtgnkeecjaffnaaaPkB
import Derived.Deep.DeepCutAuto
import Derived.Deep.RegionHeld3
import Derived.BigQuiet
namespace Go.Proofs.Ytgnkeecjaffnaaa
open Go.RowKit

theorem losE_ok {R : Int} {n : Nat} {fa fh fm : Nat → Int} (h : losE R n fa fh fm = 0) : exErr R n fa fh fm = 0 ∧ (losRs (sndV n fa fh fm) R.toNat).length ≤ 64 ∧ losD R n fa fh fm = ⟨2, 1, R + 1, (losRs (sndV n fa fh fm) R.toNat).map (mkR (sndV n fa fh fm))⟩ := by
  have hD : losD R n fa fh fm = ⟨2, 1, R + 1, (losRs (sndV n fa fh fm) R.toNat).map (mkR (sndV n fa fh fm))⟩ := if_pos h
  unfold losE at h
  by_cases h0 : exErr R n fa fh fm = 0
  · rw [if_pos h0] at h
    refine ⟨h0, ?_, hD⟩
    split at h
    · cases h
    · omega
  · rw [if_neg h0] at h; exact absurd h h0
set_option maxHeartbeats 4000000 in
set_option maxRecDepth 100000 in
theorem obeys_core (R : Int) (A : Option Addr) (n c : Nat) (fa fh fm : Nat → Int) (w : World) (hx : RuleS w A n fa fh fm) (hn : n ≤ 9223372036854775807) :
    Calls Try.prog 6 #[.agg #[.int .i64 R, .slice A n c]] w fun e w' => e = .returned (.bool true) ∧ Below w.heap.size w w' := by
  have HX := Lib.hid hx
  have HB := Lib.hid (below_alloc w (.cells #[.int .i64 R, .slice A n c] 41))
  have HK := Lib.hid (Blk.new w #[.int .i64 R, .slice A n c] 41)
  by_cases h10 : 100 < n
  · have t1 : decide (100 < n) = true := decide_eq_true h10
    have t1' : decide ((100 : Int) < (n : Int)) = true := decide_eq_true (by omega)
    clear hx h10
    go_enter Try.func6, Try.ntmps6
    go_upto_region 1 with (fail)
    generalize w.alloc (.cells #[.int .i64 R, .slice A n c] 41) = W at HB HK ⊢
    have d1 : W.cell? ⟨w.heap.size, 1, none⟩ = some (.slice A n c) := HK.out.cell rfl
    go_wp2_with (go_at_call 17; refine (awake_any _).mono ?_; rintro e w2 ⟨rfl, hst⟩; have HB := Lib.hid (HB.out.trans (hst.mono HB.out.size)); clear hst)
    go_ret
    exact ⟨rfl, HB.out⟩
  have t1 : decide (100 < n) = false := decide_eq_false h10
  have t1' : decide ((100 : Int) < (n : Int)) = false := decide_eq_false (by omega)
  have HLO := Lib.hid (fun W (hW : RuleS W A n fa fh fm) => Lossy_any R A n c fa fh fm W hW hn)
  by_cases hE : losE R n fa fh fm = 0
  case neg =>
    have hD : losD R n fa fh fm = SysD.none := if_neg hE
    rw [hD] at HLO
    obtain ⟨E, eE⟩ : ∃ E, E = losE R n fa fh fm := ⟨_, rfl⟩
    rw [← eE] at HLO hE
    have hne : ((E : Int) != 0) = true := by rw [bne_iff_ne]; omega
    clear hx eE hE h10 hD
    go_enter Try.func6, Try.ntmps6
    go_upto_region 1 with (fail)
    generalize w.alloc (.cells #[.int .i64 R, .slice A n c] 41) = W at HB HK ⊢
    have d0 : W.cell? ⟨w.heap.size, 0, none⟩ = some (.int .i64 R) := HK.out.cell rfl
    have d1 : W.cell? ⟨w.heap.size, 1, none⟩ = some (.slice A n c) := HK.out.cell rfl
    have HXW := Lib.hid (HX.out.below HB.out)
    go_wp2_with (first | (go_at_call 23; refine (HLO.out _ HXW.out).mono ?_; rintro e w1 ⟨v, rfl, ⟨vR, rfl, rows, ho, -⟩, hb⟩; obtain ⟨AR, cR, rfl, -⟩ := own_form' ho; have HB := Lib.hid ((HB.out.trans (hb.mono HB.out.size)).alloc (HB.out.trans (hb.mono HB.out.size)).size (.cells #[.int .i64 0, .int .i64 0, .int .i64 0, .slice AR SysD.none.ps.length cR] 44)); clear hb ho) | (go_at_call 17; refine (awake_any _).mono ?_; rintro e w2 ⟨rfl, hst⟩; have HB := Lib.hid (HB.out.trans (hst.mono HB.out.size)); clear hst))
    go_ret
    exact ⟨rfl, HB.out⟩
  obtain ⟨hex, hle, hD⟩ := losE_ok hE
  obtain ⟨hR0, hR4⟩ := exErr_R hex
  obtain ⟨T, rfl⟩ : ∃ T : Nat, R = T := ⟨R.toNat, by omega⟩
  rw [hE, hD, Int.toNat_natCast] at HLO
  rw [Int.toNat_natCast] at hle
  obtain ⟨ps, eps⟩ : ∃ ps, ps = losRs (sndV n fa fh fm) T := ⟨_, rfl⟩
  rw [← eps] at HLO hle
  have hmem : ∀ p, p ∈ ps → (p.1 = 0 ∨ p.1 = 1) ∧ p.2.length = T ∧ ∀ k, k < T → 0 ≤ lf p.2 k ∧ lf p.2 k ≤ 3 := fun p hp => by rw [eps] at hp; exact los_mem hp
  have hob : ∀ i k, i < ps.length → k < T → _ := fun i k hi hk => by
    have h := hmem _ (ppR_mem hi)
    exact obey (snd := sndV n fa fh fm) (bit := (ppR ps i).1) (lost := lf (ppR ps i).2) (T := T) (k := k) (snd_range hex) (by omega) h.2.2 (by omega) (by omega)
  have HOB := Lib.hid hob
  have HMEM := Lib.hid hmem
  have HEX := Lib.hid hex
  have HS := Lib.hid (fun a h W (hW : RuleS W A n fa fh fm) hb => Sends_any T a h A n c fa fh fm W hW hn hb)
  have hT4 : T ≤ 4 := by omega
  clear hx hE hD hex hmem hob eps h10 hR0 hR4
  go_enter Try.func6, Try.ntmps6
  go_upto_region 1 with (fail)
  generalize w.alloc (.cells #[.int .i64 T, .slice A n c] 41) = W at HB HK ⊢
  have d0 : W.cell? ⟨w.heap.size, 0, none⟩ = some (.int .i64 T) := HK.out.cell rfl
  have d1 : W.cell? ⟨w.heap.size, 1, none⟩ = some (.slice A n c) := HK.out.cell rfl
  have HXW := Lib.hid (HX.out.below HB.out)
  go_upto_region 4 with (go_at_call 23; refine (HLO.out _ HXW.out).mono ?_; rintro e w1 ⟨v, rfl, ⟨vR, rfl, hru⟩, hb⟩; obtain ⟨AR, cR, rfl, hrd⟩ := los_read hru (fun p hp => by have := HMEM.out p hp; omega); have HRD := Lib.hid hrd; have HB1 := Lib.hid hb; clear hru hb hrd)
  obtain ⟨V, hV⟩ : ∃ V, V = w1.alloc (.cells #[.int .i64 2, .int .i64 1, .int .i64 ((T : Int) + 1), .slice AR ps.length cR] 44) := ⟨_, rfl⟩
  have hbl := below_alloc w1 (.cells #[.int .i64 2, .int .i64 1, .int .i64 ((T : Int) + 1), .slice AR ps.length cR] 44)
  have hbk := Blk.new w1 #[.int .i64 2, .int .i64 1, .int .i64 ((T : Int) + 1), .slice AR ps.length cR] 44
  rw [← hV] at hbl hbk ⊢
  have HRD := Lib.hid (HRD.out.below hbl)
  have HKE := Lib.hid ((HK.out.below HB1.out).below hbl)
  have HXV := Lib.hid ((HXW.out.below HB1.out).below hbl)
  have HB := Lib.hid ((HB.out.trans (HB1.out.mono HB.out.size)).trans (hbl.mono (HB.out.trans (HB1.out.mono HB.out.size)).size))
  have HKS := Lib.hid hbk
  have hbne : w1.heap.size ≠ w.heap.size := fun e => by have := (HKE.out.ne HKS.out (by decide)); omega
  generalize w1.heap.size = bs at HKS hbne ⊢
  clear hV hbl hbk HB1 HXW HK d0 d1 HLO HX
  have d0 : V.cell? ⟨w.heap.size, 0, none⟩ = some (.int .i64 T) := HKE.out.cell rfl
  have s2 : V.cell? ⟨bs, 2, none⟩ = some (.int .i64 ((T : Int) + 1)) := HKS.out.cell rfl
  have s3 : V.cell? ⟨bs, 3, none⟩ = some (.slice AR ps.length cR) := HKS.out.cell rfl
  have t2 : decide ((64 : Int) < (ps.length : Int)) = false := decide_eq_false (by omega)
  have t2' : decide (64 < ps.length) = false := decide_eq_false (by omega)
  have t3 : ((T : Int) + 1 != (T : Int) + 1) = false := by simp
  go_upto_region 9 with (fail)
  clear d0 s2 s3
  go_loopw [40] (fun iv wr => ∃ i : Nat, i ≤ ps.length ∧ iv = .int .i64 i ∧ Below V.heap.size V wr) (fun iv _ => ps.length - (intOf iv).toNat)
  case atStart => exact ⟨0, Nat.zero_le _, rfl, Below.refl _ _⟩
  case round =>
    obtain ⟨i, hi, rfl, hbw⟩ := hrel
    by_cases hlt : i < ps.length
    case neg =>
      have HB := Lib.hid (HB.out.trans (hbw.mono HB.out.size))
      clear hbw
      go_wp2_with (go_at_call 17; refine (awake_any _).mono ?_; rintro e w2 ⟨rfl, hst⟩; have HB := Lib.hid (HB.out.trans (hst.mono HB.out.size)); clear hst)
      go_ret
      exact ⟨rfl, HB.out⟩
    obtain ⟨br, off, u, v, rfl, c0, c1, -, -, A', cA, B', cB, RR, cc, ev, hM, -⟩ := HRD.out.below hbw i hlt
    injection ev with ev
    injection ev with ev
    injection ev with ev1 ev2
    injection ev2 with ev2 _
    subst ev1 ev2
    have hlen := (HMEM.out _ (ppR_mem hlt)).2.1
    dsimp only at c0 c1 hM
    rw [hlen] at c0 c1 hM
    obtain ⟨U, hU⟩ : ∃ U, U = wr.alloc (.cells #[.slice A' (T + 1) cA, .slice B' (T + 1) cB] 30) := ⟨_, rfl⟩
    have hba := below_alloc wr (.cells #[.slice A' (T + 1) cA, .slice B' (T + 1) cB] 30)
    have hbk := Blk.new wr #[.slice A' (T + 1) cA, .slice B' (T + 1) cB] 30
    have HBU := Lib.hid (hbw.trans (hba.mono hbw.size))
    have s2 : wr.cell? ⟨bs, 2, none⟩ = some (.int .i64 ((T : Int) + 1)) := (HKS.out.below hbw).cell rfl
    have s2 := cell_below hba s2
    have HMU := Lib.hid (hM.below hba)
    go_upto_region 11 with (fail)
    rw [← hU] at hba hbk HBU s2 HMU ⊢
    have HKU := Lib.hid hbk
    have HKEU := Lib.hid (HKE.out.below HBU.out)
    have HKSU := Lib.hid (HKS.out.below HBU.out)
    have HXU := Lib.hid (HXV.out.below HBU.out)
    generalize wr.heap.size = bu at HKU ⊢
    clear hU hba hbk hbw hM c0 c1 hlen
    have q0 : U.cell? ⟨bu, 0, none⟩ = some (.slice A' (T + 1) cA) := HKU.out.cell rfl
    have t4 : ((T : Int) + 1 != (T : Int) + 1) = false := by simp
    go_wp2_with fail
    clear q0 s2
    go_loopw [7] (fun iv wr => ∃ t : Nat, t ≤ T ∧ iv = .int .i64 t ∧ Below U.heap.size U wr) (fun iv _ => T - (intOf iv).toNat)
    case atStart => exact ⟨0, Nat.zero_le _, rfl, Below.refl _ _⟩
    case round =>
      obtain ⟨t, ht, rfl, hbt⟩ := hrel
      have s2 : wr.cell? ⟨bs, 2, none⟩ = some (.int .i64 ((T : Int) + 1)) := (HKSU.out.below hbt).cell rfl
      have q0 : wr.cell? ⟨bu, 0, none⟩ = some (.slice A' (T + 1) cA) := (HKU.out.below hbt).cell rfl
      by_cases htT : t < T
      · have hc1 : (t : Int) + 1 < (T : Int) + 1 := by omega
        have hc1d : decide ((t : Int) + 1 < (T : Int) + 1) = true := decide_eq_true hc1
        obtain ⟨ba, oa, rfl, a0, -, ra⟩ := HMU.out.below hbt t (by omega)
        obtain ⟨ba', oa', eba, a1, -, rb⟩ := HMU.out.below hbt (t + 1) (by omega)
        injection eba with eba
        injection eba with eba eoa _
        subst eba eoa
        obtain ⟨b0, o0, e0, p0, pr0⟩ := ra 0 (by show 0 < 2; decide)
        obtain ⟨b0', o0', e0', p1, pr1⟩ := ra 1 (by show 1 < 2; decide)
        rw [e0] at e0' a0
        injection e0' with e0'
        injection e0' with e0' eo0 _
        subst e0' eo0
        obtain ⟨b1, o1, e1, n0, nr0⟩ := rb 0 (by show 0 < 2; decide)
        obtain ⟨b1', o1', e1', n1, nr1⟩ := rb 1 (by show 1 < 2; decide)
        rw [e1] at e1' a1
        injection e1' with e1'
        injection e1' with e1' eo1 _
        subst e1' eo1
        obtain ⟨f0, f1, g0, g1⟩ := HOB.out i t hlt htT
        have hrg := runS_range (sndV n fa fh fm) (ppR ps i).1 (lf (ppR ps i).2) t
        have hrg' := runS_range (sndV n fa fh fm) (ppR ps i).1 (lf (ppR ps i).2) (t + 1)
        have hL0 : runL (sndV n fa fh fm) (ppR ps i).1 (lf (ppR ps i).2) t 0 = (runS (sndV n fa fh fm) (ppR ps i).1 (lf (ppR ps i).2) t).1 := rfl
        have hL1 : runL (sndV n fa fh fm) (ppR ps i).1 (lf (ppR ps i).2) t 1 = (runS (sndV n fa fh fm) (ppR ps i).1 (lf (ppR ps i).2) t).2 := rfl
        have hN0 : runL (sndV n fa fh fm) (ppR ps i).1 (lf (ppR ps i).2) (t + 1) 0 = (runS (sndV n fa fh fm) (ppR ps i).1 (lf (ppR ps i).2) (t + 1)).1 := rfl
        have hN1 : runL (sndV n fa fh fm) (ppR ps i).1 (lf (ppR ps i).2) (t + 1) 1 = (runS (sndV n fa fh fm) (ppR ps i).1 (lf (ppR ps i).2) (t + 1)).2 := rfl
        rw [← hL0, ← hL1] at hrg
        rw [← hN0, ← hN1] at hrg'
        clear hL0 hL1 hN0 hN1 ra rb pr0 pr1 nr0 nr1
        obtain ⟨P0, eP0⟩ : ∃ x, x = runL (sndV n fa fh fm) (ppR ps i).1 (lf (ppR ps i).2) t 0 := ⟨_, rfl⟩
        obtain ⟨P1, eP1⟩ : ∃ x, x = runL (sndV n fa fh fm) (ppR ps i).1 (lf (ppR ps i).2) t 1 := ⟨_, rfl⟩
        obtain ⟨N0, eN0⟩ : ∃ x, x = runL (sndV n fa fh fm) (ppR ps i).1 (lf (ppR ps i).2) (t + 1) 0 := ⟨_, rfl⟩
        obtain ⟨N1, eN1⟩ : ∃ x, x = runL (sndV n fa fh fm) (ppR ps i).1 (lf (ppR ps i).2) (t + 1) 1 := ⟨_, rfl⟩
        rw [← eP0] at p0 f0 f1 g0 hrg
        rw [← eP1] at p1 f0 f1 g1 hrg
        rw [← eN0] at n0 f0 hrg'
        rw [← eN1] at n1 f1 hrg'
        have hS0 : sdsE T n fa fh fm 0 P0 = 0 := by unfold sdsE; rw [if_pos HEX.out, if_neg (by omega)]
        have hS1 : sdsE T n fa fh fm 1 P1 = 0 := by unfold sdsE; rw [if_pos HEX.out, if_neg (by omega)]
        have hV0 : sdsV T n fa fh fm 0 P0 = sndV n fa fh fm 0 P0 := if_pos hS0
        have hV1 : sdsV T n fa fh fm 1 P1 = sndV n fa fh fm 1 P1 := if_pos hS1
        have HS0 := Lib.hid (HS.out 0 P0)
        have HS1 := Lib.hid (HS.out 1 P1)
        rw [hS0, hV0] at HS0
        rw [hS1, hV1] at HS1
        obtain ⟨Z0, eZ0⟩ : ∃ x, x = sndV n fa fh fm 0 P0 := ⟨_, rfl⟩
        obtain ⟨Z1, eZ1⟩ : ∃ x, x = sndV n fa fh fm 1 P1 := ⟨_, rfl⟩
        rw [← eZ0] at HS0 f1
        rw [← eZ1] at HS1 f0
        clear hS0 hS1 hV0 hV1 eZ0 eZ1 eP0 eP1 eN0 eN1 e0 e1 g0 g1
        have HF := Lib.hid (And.intro f0 f1)
        have HC := Lib.hid (fun (x : World) (h : Below wr.heap.size wr x) => (⟨cell_below h q0, cell_below h a0, cell_below h a1, cell_below h p0, cell_below h p1, cell_below h n0, cell_below h n1⟩ : x.cell? ⟨bu, 0, none⟩ = _ ∧ x.cell? ⟨ba, oa + t, none⟩ = _ ∧ x.cell? ⟨ba, oa + (t + 1), none⟩ = _ ∧ x.cell? ⟨b0, o0 + 0, none⟩ = _ ∧ x.cell? ⟨b0, o0 + 1, none⟩ = _ ∧ x.cell? ⟨b1, o1 + 0, none⟩ = _ ∧ x.cell? ⟨b1, o1 + 1, none⟩ = _))
        have hti : (t : Int) < (T : Int) + 1 := by omega
        obtain ⟨V3, eV3⟩ : ∃ V3, V3 = wr := ⟨_, rfl⟩
        subst eV3
        have HBT := Lib.hid hbt
        clear f0 f1 p0 p1 n0 n1
        have hk0 : V3.cell? ⟨w.heap.size, 0, none⟩ = some (.int .i64 T) := (HKEU.out.below hbt).cell rfl
        have hk1 : V3.cell? ⟨w.heap.size, 1, none⟩ = some (.slice A n c) := (HKEU.out.below hbt).cell rfl
        have HXT := Lib.hid (HXU.out.below hbt)
        clear hbt
        go_upto_region 19 with (fail)
        clear q0 s2 a0 a1
        go_loopw [74] (fun iv wr => ∃ a : Nat, a ≤ 2 ∧ iv = .int .i64 a ∧ Below V3.heap.size V3 wr) (fun iv _ => 2 - (intOf iv).toNat)
        case atStart => exact ⟨0, by omega, rfl, Below.refl _ _⟩
        case round =>
          obtain ⟨a, ha, rfl, hbx⟩ := hrel
          have hk0 := cell_below hbx hk0
          have hk1 := cell_below hbx hk1
          have HXX := Lib.hid (HXT.out.below hbx)
          by_cases hla : a < 2
          · have h01 : a = 0 ∨ a = 1 := by omega
            clear hla ha
            rcases h01 with rfl | rfl
            · have hq0 := (HC.out wr hbx).1
              obtain ⟨-, ha0, ha1, hp0, hp1, hn0, hn1⟩ := HC.out wr hbx
              rw [Nat.add_zero] at hp0 hn0
              have hw1 : IntKind.i64.wrap (4 * P0) = 4 * P0 := by rw [IntKind.wrap_i64]; omega
              have hw2 : IntKind.i64.wrap (N0 - 4 * P0) = N0 - 4 * P0 := by rw [IntKind.wrap_i64]; omega
              have HBX := Lib.hid hbx
              clear hbx
              rw [show ((0 : Nat) : Int) = 0 from rfl]
              go_upto_region 21 with (fail)
              go_quiet (fail)
              obtain ⟨g, eg⟩ : ∃ g, g = N0 - 4 * P0 := ⟨_, rfl⟩
              rw [← eg]
              have HG := Lib.hid (show g = 0 ∨ g = Z1 by rw [eg]; exact HF.out.1)
              clear hw1 hw2 eg
              generalize hX : World.drewN _ _ = X
              have hk0 : X.cell? ⟨w.heap.size, 0, none⟩ = some (.int .i64 T) := by rw [← hX]; exact hk0
              have hk1 : X.cell? ⟨w.heap.size, 1, none⟩ = some (.slice A n c) := by rw [← hX]; exact hk1
              have hq0 : X.cell? ⟨bu, 0, none⟩ = some (.slice (some ⟨ba, oa, none⟩) (T + 1) cA) := by rw [← hX]; exact hq0
              have ha0 : X.cell? ⟨ba, oa + t, none⟩ = some (.slice (some ⟨b0, o0, none⟩) 2 (cc t)) := by rw [← hX]; exact ha0
              have hp0 : X.cell? ⟨b0, o0, none⟩ = some (.int .i64 P0) := by rw [← hX]; exact hp0
              have hp1 : X.cell? ⟨b0, o0 + 1, none⟩ = some (.int .i64 P1) := by rw [← hX]; exact hp1
              have HXY : Hid (RuleS X A n fa fh fm) := by rw [← hX]; exact HXX
              have HBY : Hid (Below V3.heap.size V3 X) := by rw [← hX]; exact Lib.hid (below_drewN HBX.out _)
              clear hX ha1 hn0 hn1 HBX HXX
              have hwi0 : IntKind.i64.wrap (1 - 0) = 1 := by rfl
              have hwi1 : IntKind.i64.wrap (1 - 1) = 0 := by rfl
              have hwi2 : IntKind.i64.wrap 1 = 1 := by rfl
              have hwi3 : IntKind.i64.wrap 0 = 0 := by rfl
              go_wp2_with fail
              go_region_held3 (fun x => x.cell? ⟨w.heap.size, 0, none⟩ = some (.int .i64 T) ∧ x.cell? ⟨w.heap.size, 1, none⟩ = some (.slice A n c) ∧ x.cell? ⟨bu, 0, none⟩ = some (.slice (some ⟨ba, oa, none⟩) (T + 1) cA) ∧ x.cell? ⟨ba, oa + t, none⟩ = some (.slice (some ⟨b0, o0, none⟩) 2 (cc t)) ∧ x.cell? ⟨b0, o0, none⟩ = some (.int .i64 P0) ∧ x.cell? ⟨b0, o0 + 1, none⟩ = some (.int .i64 P1)) (first | exact ⟨hk0, hk1, hq0, ha0, hp0, hp1⟩ | exact ⟨by assumption, by assumption, by assumption, by assumption, by assumption, by assumption⟩)
                (first | (go_at_call 24; refine (HS1.out _ (by exact HXY.out) (by omega)).mono ?_; rintro e w5 ⟨rfl, hb5⟩; have HB5 : Hid (Below X.heap.size X w5) := Lib.hid ⟨hb5.os, hb5.tape, hb5.output, hb5.size, hb5.block⟩; have hk0 := cell_below HB5.out hk0; have hk1 := cell_below HB5.out hk1; have hq0 := cell_below HB5.out hq0; have ha0 := cell_below HB5.out ha0; have hp0 := cell_below HB5.out hp0; have hp1 := cell_below HB5.out hp1; clear hb5))
              rcases HG.out with rfl | rfl
              · skip
                go_wp2_with fail
                go_roundw
                case rel => (first | exact ⟨1, by omega, by go_num, HBY.out.trans (HB5.out.mono HBY.out.size)⟩ | ((repeat apply Exists.intro); exact ⟨⟨1, by omega, by go_num, HBY.out.trans (HB5.out.mono HBY.out.size)⟩, rfl⟩))
                case measure => simp [intOf]
              · have tg : (g != g) = false := by simp
                by_cases hg0 : g = 0
                · have tg0 : (g != 0) = false := by rw [hg0]; rfl
                  clear hg0
                  go_wp2_with fail
                  go_roundw
                  case rel => (first | exact ⟨1, by omega, by go_num, HBY.out.trans (HB5.out.mono HBY.out.size)⟩ | ((repeat apply Exists.intro); exact ⟨⟨1, by omega, by go_num, HBY.out.trans (HB5.out.mono HBY.out.size)⟩, rfl⟩))
                  case measure => simp [intOf]
                · have tg0 : (g != 0) = true := by rw [bne_iff_ne]; exact hg0
                  clear hg0
                  go_wp2_with fail
                  go_roundw
                  case rel => (first | exact ⟨1, by omega, by go_num, HBY.out.trans (HB5.out.mono HBY.out.size)⟩ | ((repeat apply Exists.intro); exact ⟨⟨1, by omega, by go_num, HBY.out.trans (HB5.out.mono HBY.out.size)⟩, rfl⟩))
                  case measure => simp [intOf]
            · have hq0 := (HC.out wr hbx).1
              obtain ⟨-, ha0, ha1, hp0, hp1, hn0, hn1⟩ := HC.out wr hbx
              rw [Nat.add_zero] at hp0 hn0
              have hw1 : IntKind.i64.wrap (4 * P1) = 4 * P1 := by rw [IntKind.wrap_i64]; omega
              have hw2 : IntKind.i64.wrap (N1 - 4 * P1) = N1 - 4 * P1 := by rw [IntKind.wrap_i64]; omega
              have HBX := Lib.hid hbx
              clear hbx
              rw [show ((1 : Nat) : Int) = 1 from rfl]
              go_upto_region 21 with (fail)
              go_quiet (fail)
              obtain ⟨g, eg⟩ : ∃ g, g = N1 - 4 * P1 := ⟨_, rfl⟩
              rw [← eg]
              have HG := Lib.hid (show g = 0 ∨ g = Z0 by rw [eg]; exact HF.out.2)
              clear hw1 hw2 eg
              generalize hX : World.drewN _ _ = X
              have hk0 : X.cell? ⟨w.heap.size, 0, none⟩ = some (.int .i64 T) := by rw [← hX]; exact hk0
              have hk1 : X.cell? ⟨w.heap.size, 1, none⟩ = some (.slice A n c) := by rw [← hX]; exact hk1
              have hq0 : X.cell? ⟨bu, 0, none⟩ = some (.slice (some ⟨ba, oa, none⟩) (T + 1) cA) := by rw [← hX]; exact hq0
              have ha0 : X.cell? ⟨ba, oa + t, none⟩ = some (.slice (some ⟨b0, o0, none⟩) 2 (cc t)) := by rw [← hX]; exact ha0
              have hp0 : X.cell? ⟨b0, o0, none⟩ = some (.int .i64 P0) := by rw [← hX]; exact hp0
              have hp1 : X.cell? ⟨b0, o0 + 1, none⟩ = some (.int .i64 P1) := by rw [← hX]; exact hp1
              have HXY : Hid (RuleS X A n fa fh fm) := by rw [← hX]; exact HXX
              have HBY : Hid (Below V3.heap.size V3 X) := by rw [← hX]; exact Lib.hid (below_drewN HBX.out _)
              clear hX ha1 hn0 hn1 HBX HXX
              have hwi0 : IntKind.i64.wrap (1 - 0) = 1 := by rfl
              have hwi1 : IntKind.i64.wrap (1 - 1) = 0 := by rfl
              have hwi2 : IntKind.i64.wrap 1 = 1 := by rfl
              have hwi3 : IntKind.i64.wrap 0 = 0 := by rfl
              go_wp2_with fail
              go_region_held3 (fun x => x.cell? ⟨w.heap.size, 0, none⟩ = some (.int .i64 T) ∧ x.cell? ⟨w.heap.size, 1, none⟩ = some (.slice A n c) ∧ x.cell? ⟨bu, 0, none⟩ = some (.slice (some ⟨ba, oa, none⟩) (T + 1) cA) ∧ x.cell? ⟨ba, oa + t, none⟩ = some (.slice (some ⟨b0, o0, none⟩) 2 (cc t)) ∧ x.cell? ⟨b0, o0, none⟩ = some (.int .i64 P0) ∧ x.cell? ⟨b0, o0 + 1, none⟩ = some (.int .i64 P1)) (first | exact ⟨hk0, hk1, hq0, ha0, hp0, hp1⟩ | exact ⟨by assumption, by assumption, by assumption, by assumption, by assumption, by assumption⟩)
                (first | (go_at_call 24; refine (HS0.out _ (by exact HXY.out) (by omega)).mono ?_; rintro e w5 ⟨rfl, hb5⟩; have HB5 : Hid (Below X.heap.size X w5) := Lib.hid ⟨hb5.os, hb5.tape, hb5.output, hb5.size, hb5.block⟩; have hk0 := cell_below HB5.out hk0; have hk1 := cell_below HB5.out hk1; have hq0 := cell_below HB5.out hq0; have ha0 := cell_below HB5.out ha0; have hp0 := cell_below HB5.out hp0; have hp1 := cell_below HB5.out hp1; clear hb5))
              rcases HG.out with rfl | rfl
              · skip
                go_wp2_with fail
                go_roundw
                case rel => (first | exact ⟨2, by omega, by go_num, HBY.out.trans (HB5.out.mono HBY.out.size)⟩ | ((repeat apply Exists.intro); exact ⟨⟨2, by omega, by go_num, HBY.out.trans (HB5.out.mono HBY.out.size)⟩, rfl⟩))
                case measure => simp [intOf]
              · have tg : (g != g) = false := by simp
                by_cases hg0 : g = 0
                · have tg0 : (g != 0) = false := by rw [hg0]; rfl
                  clear hg0
                  go_wp2_with fail
                  go_roundw
                  case rel => (first | exact ⟨2, by omega, by go_num, HBY.out.trans (HB5.out.mono HBY.out.size)⟩ | ((repeat apply Exists.intro); exact ⟨⟨2, by omega, by go_num, HBY.out.trans (HB5.out.mono HBY.out.size)⟩, rfl⟩))
                  case measure => simp [intOf]
                · have tg0 : (g != 0) = true := by rw [bne_iff_ne]; exact hg0
                  clear hg0
                  go_wp2_with fail
                  go_roundw
                  case rel => (first | exact ⟨2, by omega, by go_num, HBY.out.trans (HB5.out.mono HBY.out.size)⟩ | ((repeat apply Exists.intro); exact ⟨⟨2, by omega, by go_num, HBY.out.trans (HB5.out.mono HBY.out.size)⟩, rfl⟩))
                  case measure => simp [intOf]
          · obtain rfl : a = 2 := by omega
            have HBX := Lib.hid hbx
            clear hbx
            go_wp2_with fail
            go_roundw
            case rel => exact ⟨t + 1, by omega, by go_num, HBT.out.trans (HBX.out.mono HBT.out.size)⟩
            case measure => simp [intOf]; omega
      · obtain rfl : t = T := by omega
        have hc1 : ¬ ((t : Int) + 1 < (t : Int) + 1) := by omega
        have hc1d : decide ((t : Int) + 1 < (t : Int) + 1) = false := decide_eq_false hc1
        go_wp2_with fail
        go_roundw
        case rel => exact ⟨i + 1, by omega, by go_num, HBU.out.trans (hbt.mono HBU.out.size)⟩
        case measure => simp [intOf]; omega
end Go.Proofs.Ytgnkeecjaffnaaa
