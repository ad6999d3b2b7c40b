/-
  Walks: the law ProtocolLossy.
-/
import Derived.Test.YtgnkeecjaffnaaaProg
import Derived.Test.YtgnkeecjaffnaaaBase
import Derived.Test.YtgnkeecjaffnaaaRow
import Derived.Test.YtgnkeecjaffnaaaRowsOf
import Derived.Test.YtgnkeecjaffnaaaPc
import Derived.Test.YtgnkeecjaffnaaaPd
import Derived.Test.YtgnkeecjaffnaaaPrB
import Derived.Test.YtgnkeecjaffnaaaPrI
import Derived.Test.YtgnkeecjaffnaaaPrN
import Derived.Test.YtgnkeecjaffnaaaPfC
import Derived.Test.YtgnkeecjaffnaaaPkB
import Derived.Test.YtgnkeecjaffnaaaPyB
import Derived.Test.YtgnkeecjaffnaaaPyC
import Derived.Test.YtgnkeecjaffnaaaPyD
import Derived.Deep.DeepCutAuto
import Derived.Deep.RegionHeld3
namespace Go.Proofs.Ytgnkeecjaffnaaa
open Go.RowKit

/-! ### systems that are owned, read and held against each other -/
def RunD.small (d : RunD) : Prop := d.n ≤ 65536 ∧ d.k ≤ 65536 ∧ (∀ i, i < d.n → d.m i ≤ 9223372036854775807) ∧ (∀ i j, i < d.n → j < d.m i → -9223372036854775808 ≤ d.L i j ∧ d.L i j ≤ 9223372036854775807) ∧ ∀ u, u < d.k → d.F u < 18446744073709551616
def pgD (ps : List RunD) (i : Nat) : RunD := ps.getD i RunD.none
theorem runs_read {w : World} {base : Nat} {vR : Value} {ps : List RunD} (h : RunsO w base vR ps) (hl : ∀ d, d ∈ ps → d.small) :
    ∃ A c, vR = .slice A ps.length c ∧ RunsR w A ps.length (fun i => (pgD ps i).n) (fun i => (pgD ps i).m) (fun i => (pgD ps i).L) (fun i => (pgD ps i).k) (fun i => (pgD ps i).F) := by
  obtain ⟨rows, ho, hr⟩ := h
  obtain ⟨A, c, rfl, hc⟩ := own_form' ho
  refine ⟨A, c, rfl, fun i hi => ?_⟩
  have hg : ps[i]? = some (pgD ps i) := by unfold pgD; rw [List.getD_eq_getElem?_getD, List.getElem?_eq_getElem hi]; rfl
  have hp := hl _ (List.mem_of_getElem? hg)
  obtain ⟨u, v, e1, e2, hd⟩ := hr i (pgD ps i) hg
  obtain ⟨b, rfl, -, -, h1⟩ := hc (i * 2) (by omega)
  obtain ⟨b', hb, -, -, h2⟩ := hc (i * 2 + 1) (by omega)
  injection hb with hb
  injection hb with hb _ _
  subst hb
  exact ⟨b, 0, u, v, rfl, by rw [Nat.zero_add]; exact h1.trans e1, by rw [Nat.zero_add]; exact h2.trans e2, hp.1, hp.2.1, RunO.read hd hp.2.2.1 hp.2.2.2.1 hp.2.2.2.2⟩
theorem runsO_shape {w : World} {base : Nat} {v : Value} {ps : List RunD} (h : RunsO w base v ps) : ∃ A c, v = .slice A ps.length c := by
  obtain ⟨rows, ho, _⟩ := h
  obtain ⟨A, c, rfl, _⟩ := own_form' ho
  exact ⟨A, c, rfl⟩
def SysD.small (D : SysD) : Prop := D.ps.length ≤ 65536 ∧ ∀ d, d ∈ D.ps → d.small
theorem same_sys {w : World} {base base' : Nat} {v v' : Value} (D : SysD) (h : RunsO w base v D.ps) (h' : RunsO w base' v' D.ps) (hs : D.small) :
    Calls Try.prog 28 #[.agg #[.int .i64 D.a, .int .i64 D.f, .int .i64 D.l, v], .agg #[.int .i64 D.a, .int .i64 D.f, .int .i64 D.l, v']] w fun e w' => e = .returned (.bool true) ∧ Below w.heap.size w w' := by
  obtain ⟨A, c, rfl, hR⟩ := runs_read h hs.2
  obtain ⟨A', c', rfl, hR'⟩ := runs_read h' hs.2
  exact Same_any _ _ D.a D.f D.l D.a D.f D.l D.ps.length D.ps.length _ _ _ _ _ _ _ _ _ _ w ⟨A, c, rfl, hR⟩ ⟨A', c', rfl, hR'⟩ hs.1 true ⟨fun _ => ⟨rfl, rfl, rfl, rfl, fun i _ => ⟨rfl, rfl, fun t _ => ⟨rfl, fun _ _ => rfl⟩, fun _ _ => rfl⟩⟩, fun _ => rfl⟩
theorem SysD.none_small : SysD.none.small := ⟨by decide, fun _ h => by cases h⟩
theorem mkR_small {snd : Int → Int → Int} {p : Int × List Int} (hl : p.2.length ≤ 60000) (hb : p.1.toNat < 18446744073709551616) : (mkR snd p).small :=
  ⟨by show p.2.length + 1 ≤ 65536; omega, by show p.2.length + 1 ≤ 65536; omega, fun _ _ => by show 2 ≤ _; decide, fun _ _ _ _ => runL_range _ _ _ _ _, fun _ _ => hb⟩
theorem losD_small (R : Int) (n : Nat) (fa fh fm : Nat → Int) : (losD R n fa fh fm).small := by
  by_cases hE : losE R n fa fh fm = 0
  · have hD : losD R n fa fh fm = ⟨2, 1, R + 1, (losRs (sndV n fa fh fm) R.toNat).map (mkR (sndV n fa fh fm))⟩ := if_pos hE
    have hR : 0 ≤ R ∧ R ≤ 4 := by
      unfold losE at hE
      by_cases h0 : exErr R n fa fh fm = 0
      · exact exErr_R h0
      · rw [if_neg h0] at hE; exact absurd hE h0
    rw [hD]
    refine ⟨?_, fun d hd => ?_⟩
    · show (List.map _ _).length ≤ 65536
      rw [List.length_map]
      exact Nat.le_trans (genT_le _ _ _ _ _) (by decide)
    · obtain ⟨p, hp, rfl⟩ := List.mem_map.1 hd
      have := los_mem hp
      exact mkR_small (by rw [this.2.1]; omega) (by rcases this.1 with h | h <;> rw [h] <;> decide)
  · have hD : losD R n fa fh fm = SysD.none := if_neg hE
    rw [hD]; exact SysD.none_small
theorem relD_small (R : Int) (n : Nat) (fa fh fm : Nat → Int) : (relD R n fa fh fm).small := by
  by_cases hE : exErr R n fa fh fm = 0
  · have hD : relD R n fa fh fm = ⟨2, 1, R + 1, (relB R.toNat 2).map (mkR (sndV n fa fh fm))⟩ := if_pos hE
    have hR := exErr_R hE
    rw [hD]
    refine ⟨by show (List.map _ _).length ≤ 65536; rw [List.length_map]; simp [relB], fun d hd => ?_⟩
    obtain ⟨p, hp, rfl⟩ := List.mem_map.1 hd
    obtain ⟨k, hk, rfl⟩ := List.mem_map.1 hp
    have hk := List.mem_range.1 hk
    exact mkR_small (by show (zs R.toNat).length ≤ 60000; rw [zs_len]; omega) (by show (k : Int).toNat < _; omega)
  · have hD : relD R n fa fh fm = SysD.none := if_neg hE
    rw [hD]; exact SysD.none_small
set_option maxHeartbeats 4000000 in
set_option maxRecDepth 100000 in
theorem lossy_core (R : Int) (A : Option Addr) (n c : Nat) (fa fh fm : Nat → Int) (w : World) (hx : RuleS w A n fa fh fm) (hn : n ≤ 9223372036854775807) :
    Calls Try.prog 7 #[.agg #[.int .i64 R, .slice A n c]] w fun e w' => e = .returned (.bool true) ∧ Below w.heap.size w w' := by
  have HB := Lib.hid (below_alloc w (.cells #[.int .i64 R, .slice A n c] 41))
  have hbk := Blk.new w #[.int .i64 R, .slice A n c] 41
  have z0 : (w.alloc (.cells #[.int .i64 R, .slice A n c] 41)).cell? ⟨w.heap.size, 0, none⟩ = some (.int .i64 R) := hbk.cell rfl
  have z1 : (w.alloc (.cells #[.int .i64 R, .slice A n c] 41)).cell? ⟨w.heap.size, 1, none⟩ = some (.slice A n c) := hbk.cell rfl
  have HX := Lib.hid (hx.below HB.out)
  clear hbk hx
  by_cases h100 : 100 < n
  · have t1 : decide (100 < n) = true := decide_eq_true h100
    have t1' : decide ((100 : Int) < (n : Int)) = true := decide_eq_true (by omega)
    clear h100
    go_enter Try.func7, Try.ntmps7
    go_upto_region 1 with (fail)
    generalize w.alloc (.cells #[.int .i64 R, .slice A n c] 41) = W at HB z0 z1 HX ⊢
    go_wp2_with (go_at_call 17; refine (awake_any _).mono ?_; rintro e w2 ⟨rfl, hst⟩; have HB := Lib.hid (HB.out.trans (hst.mono HB.out.size)); clear hst)
    go_ret
    exact ⟨rfl, HB.out⟩
  have t1 : decide (100 < n) = false := decide_eq_false h100
  have t1' : decide ((100 : Int) < (n : Int)) = false := decide_eq_false (by omega)
  have HC1 := Lib.hid (fun W (hW : RuleS W A n fa fh fm) => Lossy_any R A n c fa fh fm W hW hn)
  have HC2 := Lib.hid (fun W (hW : RuleS W A n fa fh fm) => rLossy_any R A n c fa fh fm W hW hn)
  have HC3 := Lib.hid (fun W (hW : RuleS W A n fa fh fm) => Reliable_any R A n c fa fh fm W hW hn)
  have HC4 := Lib.hid (fun W (hW : RuleS W A n fa fh fm) => rReliable_any R A n c fa fh fm W hW hn)
  have HS1 := Lib.hid (losD_small R n fa fh fm)
  have HS2 := Lib.hid (relD_small R n fa fh fm)
  obtain ⟨D, eD⟩ : ∃ D, D = losD R n fa fh fm := ⟨_, rfl⟩
  obtain ⟨G, eG⟩ : ∃ D, D = relD R n fa fh fm := ⟨_, rfl⟩
  obtain ⟨E, eE⟩ : ∃ E, E = losE R n fa fh fm := ⟨_, rfl⟩
  obtain ⟨E', eE'⟩ : ∃ E, E = exErr R n fa fh fm := ⟨_, rfl⟩
  rw [← eD, ← eE] at HC1 HC2
  rw [← eG, ← eE'] at HC3 HC4
  rw [← eD] at HS1
  rw [← eG] at HS2
  have b1 : ((E : Int) == (E : Int)) = true := by simp
  have b2 : ((E' : Int) == (E' : Int)) = true := by simp
  clear eD eG eE eE' h100
  go_enter Try.func7, Try.ntmps7
  go_upto_region 1 with (fail)
  generalize w.alloc (.cells #[.int .i64 R, .slice A n c] 41) = W at HB z0 z1 HX ⊢
  go_upto_region 4 with (go_at_call 23; refine (HC1.out _ HX.out).mono ?_; rintro e w3 ⟨x, rfl, hd, hb⟩; obtain ⟨v, rfl, hr⟩ := hd; obtain ⟨Av4, cv4, rfl⟩ := runsO_shape hr; have HD := Lib.hid hr; have HB1 := Lib.hid hb; clear hr hb)
  obtain ⟨V, hV⟩ : ∃ V, V = w3.alloc (.cells #[.int .i64 D.a, .int .i64 D.f, .int .i64 D.l, .slice Av4 D.ps.length cv4] 44) := ⟨_, rfl⟩
  have hbl := below_alloc w3 (.cells #[.int .i64 D.a, .int .i64 D.f, .int .i64 D.l, .slice Av4 D.ps.length cv4] 44)
  have hbk := Blk.new w3 #[.int .i64 D.a, .int .i64 D.f, .int .i64 D.l, .slice Av4 D.ps.length cv4] 44
  rw [← hV] at hbl hbk ⊢
  have hb13 := HB1.out.trans (hbl.mono HB1.out.size)
  have HX := Lib.hid (HX.out.below hb13)
  have HB := Lib.hid (HB.out.trans (hb13.mono HB.out.size))
  have z0 := cell_below hb13 z0
  have z1 := cell_below hb13 z1
  have HD4 := Lib.hid (HD.out.below hbl)
  have HK4 := Lib.hid hbk
  generalize w3.heap.size = b4 at HK4 ⊢
  clear hV hbl hbk hb13 HB1 HD
  go_upto_region 5 with (go_at_call 25; refine (HC2.out _ HX.out).mono ?_; rintro e w3 ⟨x, rfl, hd, hb⟩; obtain ⟨v, rfl, hr⟩ := hd; obtain ⟨Av5, cv5, rfl⟩ := runsO_shape hr; have HD := Lib.hid hr; have HB1 := Lib.hid hb; clear hr hb)
  obtain ⟨V, hV⟩ : ∃ V, V = w3.alloc (.cells #[.int .i64 D.a, .int .i64 D.f, .int .i64 D.l, .slice Av5 D.ps.length cv5] 44) := ⟨_, rfl⟩
  have hbl := below_alloc w3 (.cells #[.int .i64 D.a, .int .i64 D.f, .int .i64 D.l, .slice Av5 D.ps.length cv5] 44)
  have hbk := Blk.new w3 #[.int .i64 D.a, .int .i64 D.f, .int .i64 D.l, .slice Av5 D.ps.length cv5] 44
  rw [← hV] at hbl hbk ⊢
  have hb13 := HB1.out.trans (hbl.mono HB1.out.size)
  have HX := Lib.hid (HX.out.below hb13)
  have HB := Lib.hid (HB.out.trans (hb13.mono HB.out.size))
  have z0 := cell_below hb13 z0
  have z1 := cell_below hb13 z1
  have HD5 := Lib.hid (HD.out.below hbl)
  have HK5 := Lib.hid hbk
  generalize w3.heap.size = b5 at HK5 ⊢
  have HD4 := Lib.hid (HD4.out.below hb13)
  have HK4 := Lib.hid (HK4.out.below hb13)
  clear hV hbl hbk hb13 HB1 HD
  go_upto_region 6 with (go_at_call 26; refine (HC3.out _ HX.out).mono ?_; rintro e w3 ⟨x, rfl, hd, hb⟩; obtain ⟨v, rfl, hr⟩ := hd; obtain ⟨Av6, cv6, rfl⟩ := runsO_shape hr; have HD := Lib.hid hr; have HB1 := Lib.hid hb; clear hr hb)
  obtain ⟨V, hV⟩ : ∃ V, V = w3.alloc (.cells #[.int .i64 G.a, .int .i64 G.f, .int .i64 G.l, .slice Av6 G.ps.length cv6] 44) := ⟨_, rfl⟩
  have hbl := below_alloc w3 (.cells #[.int .i64 G.a, .int .i64 G.f, .int .i64 G.l, .slice Av6 G.ps.length cv6] 44)
  have hbk := Blk.new w3 #[.int .i64 G.a, .int .i64 G.f, .int .i64 G.l, .slice Av6 G.ps.length cv6] 44
  rw [← hV] at hbl hbk ⊢
  have hb13 := HB1.out.trans (hbl.mono HB1.out.size)
  have HX := Lib.hid (HX.out.below hb13)
  have HB := Lib.hid (HB.out.trans (hb13.mono HB.out.size))
  have z0 := cell_below hb13 z0
  have z1 := cell_below hb13 z1
  have HD6 := Lib.hid (HD.out.below hbl)
  have HK6 := Lib.hid hbk
  generalize w3.heap.size = b6 at HK6 ⊢
  have HD4 := Lib.hid (HD4.out.below hb13)
  have HK4 := Lib.hid (HK4.out.below hb13)
  have HD5 := Lib.hid (HD5.out.below hb13)
  have HK5 := Lib.hid (HK5.out.below hb13)
  clear hV hbl hbk hb13 HB1 HD
  go_upto_region 7 with (go_at_call 27; refine (HC4.out _ HX.out).mono ?_; rintro e w3 ⟨x, rfl, hd, hb⟩; obtain ⟨v, rfl, hr⟩ := hd; obtain ⟨Av7, cv7, rfl⟩ := runsO_shape hr; have HD := Lib.hid hr; have HB1 := Lib.hid hb; clear hr hb)
  obtain ⟨V, hV⟩ : ∃ V, V = w3.alloc (.cells #[.int .i64 G.a, .int .i64 G.f, .int .i64 G.l, .slice Av7 G.ps.length cv7] 44) := ⟨_, rfl⟩
  have hbl := below_alloc w3 (.cells #[.int .i64 G.a, .int .i64 G.f, .int .i64 G.l, .slice Av7 G.ps.length cv7] 44)
  have hbk := Blk.new w3 #[.int .i64 G.a, .int .i64 G.f, .int .i64 G.l, .slice Av7 G.ps.length cv7] 44
  rw [← hV] at hbl hbk ⊢
  have hb13 := HB1.out.trans (hbl.mono HB1.out.size)
  have HX := Lib.hid (HX.out.below hb13)
  have HB := Lib.hid (HB.out.trans (hb13.mono HB.out.size))
  have z0 := cell_below hb13 z0
  have z1 := cell_below hb13 z1
  have HD7 := Lib.hid (HD.out.below hbl)
  have HK7 := Lib.hid hbk
  generalize w3.heap.size = b7 at HK7 ⊢
  have HD4 := Lib.hid (HD4.out.below hb13)
  have HK4 := Lib.hid (HK4.out.below hb13)
  have HD5 := Lib.hid (HD5.out.below hb13)
  have HK5 := Lib.hid (HK5.out.below hb13)
  have HD6 := Lib.hid (HD6.out.below hb13)
  have HK6 := Lib.hid (HK6.out.below hb13)
  clear hV hbl hbk hb13 HB1 HD HC1 HC2 HC3 HC4 z0 z1 HX
  obtain ⟨V4, eV⟩ : ∃ V4, V4 = V := ⟨_, rfl⟩
  subst eV
  have k40 := HK4.out.cell (k := 0) rfl
  have k41 := HK4.out.cell (k := 1) rfl
  have k42 := HK4.out.cell (k := 2) rfl
  have k43 := HK4.out.cell (k := 3) rfl
  have k50 := HK5.out.cell (k := 0) rfl
  have k51 := HK5.out.cell (k := 1) rfl
  have k52 := HK5.out.cell (k := 2) rfl
  have k53 := HK5.out.cell (k := 3) rfl
  have k60 := HK6.out.cell (k := 0) rfl
  have k61 := HK6.out.cell (k := 1) rfl
  have k62 := HK6.out.cell (k := 2) rfl
  have k63 := HK6.out.cell (k := 3) rfl
  have k70 := HK7.out.cell (k := 0) rfl
  have k71 := HK7.out.cell (k := 1) rfl
  have k72 := HK7.out.cell (k := 2) rfl
  have k73 := HK7.out.cell (k := 3) rfl
  have HSA := Lib.hid (same_sys D HD4.out HD5.out HS1.out)
  have HSB := Lib.hid (fun W (hW : Below V4.heap.size V4 W) => same_sys G (HD6.out.below hW) (HD7.out.below hW) HS2.out)
  clear HK4 HK5 HK6 HK7 HD4 HD5 HD6 HD7
  go_wp2_with (first
    | (go_at_call 17; refine (awake_any _).mono ?_; rintro e w9 ⟨rfl, hst⟩; have HB := Lib.hid (HB.out.trans (hst.mono HB.out.size)); clear hst)
    | (have hq := HBV.out; go_at_call 28; refine (HSB.out _ hq).mono ?_; rintro e w8 ⟨rfl, hb1⟩; have HB := Lib.hid (HB.out.trans ((below_trans hq hb1).mono HB.out.size)); clear hb1 hq HBV)
    | (go_at_call 28; refine HSA.out.mono ?_; rintro e w7 ⟨rfl, hb1⟩; have k60 := cell_below hb1 k60; have k61 := cell_below hb1 k61; have k62 := cell_below hb1 k62; have k63 := cell_below hb1 k63; have k70 := cell_below hb1 k70; have k71 := cell_below hb1 k71; have k72 := cell_below hb1 k72; have k73 := cell_below hb1 k73; have HBV := Lib.hid hb1; clear hb1 HSA))
  go_ret
  exact ⟨rfl, HB.out⟩
end Go.Proofs.Ytgnkeecjaffnaaa
