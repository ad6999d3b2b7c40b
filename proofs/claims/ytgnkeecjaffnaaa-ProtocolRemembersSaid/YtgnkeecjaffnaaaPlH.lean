/-
  Walks: the law ProtocolRemembers.
-/
import Derived.Test.YtgnkeecjaffnaaaProg
import Derived.Test.YtgnkeecjaffnaaaBase
import Derived.Test.YtgnkeecjaffnaaaRow
import Derived.Test.YtgnkeecjaffnaaaRowsOf
import Derived.Test.YtgnkeecjaffnaaaPc
import Derived.Test.YtgnkeecjaffnaaaPd
import Derived.Test.YtgnkeecjaffnaaaPrB
import Derived.Test.YtgnkeecjaffnaaaPrG
import Derived.Test.YtgnkeecjaffnaaaPrI
import Derived.Test.YtgnkeecjaffnaaaPrN
import Derived.Test.YtgnkeecjaffnaaaPrQ
import Derived.Test.YtgnkeecjaffnaaaPkB
import Derived.Test.YtgnkeecjaffnaaaSyS
import Derived.Test.YtgnkeecjaffnaaaPyC
import Derived.Test.YtgnkeecjaffnaaaPyP
import Derived.Test.YtgnkeecjaffnaaaQcP
import Derived.Test.YtgnkeecjaffnaaaQcE
import Derived.Test.YtgnkeecjaffnaaaQcF
import Derived.Deep.DeepCutAuto
import Derived.Deep.RegionHeld3
namespace Go.Proofs.Ytgnkeecjaffnaaa
open Go.RowKit

theorem good_read {w : World} {base : Nat} {vR : Value} {snd : Int → Int → Int} {T : Nat} {ps : List (Int × List Int)} (h : RunsO w base vR (ps.map (mkR snd))) (hG : GoodP T ps) (hT : T ≤ 4) :
    ∃ A c, vR = .slice A ps.length c ∧ RunsR w A ps.length (fun i => (ppR ps i).2.length + 1) (fun _ _ => 2) (psL snd ps) (fun i => (ppR ps i).2.length + 1) (fun i _ => (ppR ps i).1.toNat) :=
  los_read h fun p hp => ⟨by have := (hG p hp).2.1; omega, by rcases (hG p hp).1 with h | h <;> rw [h] <;> decide⟩
/-- Which bits were there among the first runs. -/
def FirI (ps : List (Int × List Int)) (i : Nat) (p0 p1 : Bool) : Prop := (p0 = true ↔ ∃ k, k < i ∧ (ppR ps k).1 = 0) ∧ (p1 = true ↔ ∃ k, k < i ∧ (ppR ps k).1 = 1)
theorem FirI.zero (ps : List (Int × List Int)) : FirI ps 0 false false := ⟨⟨fun h => (Bool.noConfusion h), fun ⟨_, h, _⟩ => absurd h (Nat.not_lt_zero _)⟩, ⟨fun h => (Bool.noConfusion h), fun ⟨_, h, _⟩ => absurd h (Nat.not_lt_zero _)⟩⟩
theorem lt_succ_ex {P : Nat → Prop} {i : Nat} : (∃ k, k < i + 1 ∧ P k) ↔ (∃ k, k < i ∧ P k) ∨ P i := by
  constructor
  · rintro ⟨k, hk, h⟩
    rcases Nat.lt_succ_iff_lt_or_eq.1 hk with h1 | rfl
    · exact .inl ⟨k, h1, h⟩
    · exact .inr h
  · rintro (⟨k, hk, h⟩ | h)
    · exact ⟨k, by omega, h⟩
    · exact ⟨i, by omega, h⟩
theorem FirI.step0 {ps : List (Int × List Int)} {i : Nat} {p0 p1 : Bool} (h : FirI ps i p0 p1) (e : (ppR ps i).1 = 0) : FirI ps (i + 1) true p1 := by
  unfold FirI at h ⊢
  rw [lt_succ_ex (P := fun k => (ppR ps k).1 = 0), lt_succ_ex (P := fun k => (ppR ps k).1 = 1)]
  refine ⟨⟨fun _ => .inr e, fun _ => rfl⟩, h.2.trans ⟨.inl, fun h => h.resolve_right (by omega)⟩⟩
theorem FirI.step1 {ps : List (Int × List Int)} {i : Nat} {p0 p1 : Bool} (h : FirI ps i p0 p1) (e : (ppR ps i).1 = 1) : FirI ps (i + 1) p0 true := by
  unfold FirI at h ⊢
  rw [lt_succ_ex (P := fun k => (ppR ps k).1 = 0), lt_succ_ex (P := fun k => (ppR ps k).1 = 1)]
  refine ⟨h.1.trans ⟨.inl, fun h => h.resolve_right (by omega)⟩, ⟨fun _ => .inr e, fun _ => rfl⟩⟩
theorem FirI.none0 {ps : List (Int × List Int)} {i : Nat} {p1 : Bool} (h : FirI ps i false p1) (e : (ppR ps i).1 = 0) : ∀ k, k < i → (ppR ps k).1 ≠ (ppR ps i).1 := fun k hk hkk => absurd (h.1.2 ⟨k, hk, hkk.trans e⟩) Bool.false_ne_true
theorem FirI.none1 {ps : List (Int × List Int)} {i : Nat} {p0 : Bool} (h : FirI ps i p0 false) (e : (ppR ps i).1 = 1) : ∀ k, k < i → (ppR ps k).1 ≠ (ppR ps i).1 := fun k hk hkk => absurd (h.2.2 ⟨k, hk, hkk.trans e⟩) Bool.false_ne_true
theorem FirI.all {snd : Int → Int → Int} {T : Nat} {ps : List (Int × List Int)} {p0 p1 : Bool} (h : FirI ps ps.length p0 p1) (hP : LosP snd T ps) : p0 = true ∧ p1 = true := ⟨h.1.2 (hP.all 0 (.inl rfl)), h.2.2 (hP.all 1 (.inr rfl))⟩
/-- A run of a system, read. -/
theorem runs_at {w : World} {g o n : Nat} {T : Nat → Nat} {m : Nat → Nat → Nat} {L : Nat → Nat → Nat → Int} {K : Nat → Nat} {F : Nat → Nat → Nat} (h : RunsR w (some ⟨g, o, none⟩) n T m L K F) {i : Nat} (hi : i < n) :
    ∃ Ax cx Bx dx, w.cell? ⟨g, o + i * 2, none⟩ = some (.slice Ax (T i) cx) ∧ w.cell? ⟨g, o + i * 2 + 1, none⟩ = some (.slice Bx (K i) dx) ∧ RunR w (.agg #[.slice Ax (T i) cx, .slice Bx (K i) dx]) (T i) (m i) (L i) (K i) (F i) ∧ U64s w Bx (K i) (F i) := by
  obtain ⟨b, off, u, v, e, c0, c1, -, -, hr⟩ := h i hi
  injection e with e
  injection e with e1 e2 _
  subst e1 e2
  have hr2 := hr
  obtain ⟨Ax, cx, Bx, dx, R, cc, euv, hM, hF⟩ := hr
  obtain ⟨rfl, rfl⟩ : u = .slice Ax (T i) cx ∧ v = .slice Bx (K i) dx := by simpa using euv
  exact ⟨Ax, cx, Bx, dx, c0, c1, hr2, hF⟩
/-- What both systems are, where there is no error. -/
theorem rem_facts (R : Int) (n : Nat) (fa fh fm : Nat → Int) (h : losE R n fa fh fm = 0) : exErr R n fa fh fm = 0 ∧ ∃ (T : Nat) (ps : List (Int × List Int)) (snd : Int → Int → Int), losD R n fa fh fm = ⟨2, 1, (T : Int) + 1, ps.map (mkR snd)⟩ ∧ relD R n fa fh fm = ⟨2, 1, (T : Int) + 1, (relB T 2).map (mkR snd)⟩ ∧ LosP snd T ps ∧ T ≤ 4 ∧ ∀ a h, 0 ≤ snd a h ∧ snd a h ≤ 3 := by
  have h2 : losD R n fa fh fm = _ := if_pos h
  unfold losE at h
  by_cases h0 : exErr R n fa fh fm = 0
  · rw [if_pos h0] at h
    have h1 : relD R n fa fh fm = _ := if_pos h0
    have hR := exErr_R h0
    have hl : ¬ 64 < (losRs (sndV n fa fh fm) R.toNat).length := fun h64 => by rw [if_pos h64] at h; cases h
    have e : ((R.toNat : Nat) : Int) = R := by omega
    refine ⟨h0, R.toNat, losRs (sndV n fa fh fm) R.toNat, sndV n fa fh fm, ?_, ?_, losP (snd_range h0) (by omega) (by omega), by omega, snd_range h0⟩
    · rw [h2, e]
    · rw [h1, e]
  · rw [if_neg h0] at h; exact absurd h h0
set_option maxHeartbeats 8000000 in
set_option maxRecDepth 100000 in
theorem remembers_core (R : Int) (A : Option Addr) (n c : Nat) (fa fh fm : Nat → Int) (w : World) (hx : RuleS w A n fa fh fm) (hn : n ≤ 9223372036854775807) :
    Calls Try.prog 10 #[.agg #[.int .i64 R, .slice A n c]] w fun e w' => e = .returned (.bool true) ∧ Below w.heap.size w w' := by
  have HB := Lib.hid (below_alloc w (.cells #[.int .i64 R, .slice A n c] 41))
  have hbk := Blk.new w #[.int .i64 R, .slice A n c] 41
  have z0 : (w.alloc (.cells #[.int .i64 R, .slice A n c] 41)).cell? ⟨w.heap.size, 0, none⟩ = some (.int .i64 R) := hbk.cell rfl
  have z1 : (w.alloc (.cells #[.int .i64 R, .slice A n c] 41)).cell? ⟨w.heap.size, 1, none⟩ = some (.slice A n c) := hbk.cell rfl
  have HX := Lib.hid (hx.below HB.out)
  clear hbk hx
  by_cases h100 : 100 < n
  · have t1 : decide (100 < n) = true := decide_eq_true h100
    have t1' : decide ((100 : Int) < (n : Int)) = true := decide_eq_true (by omega)
    clear h100
    go_enter Try.func10, Try.ntmps10
    go_upto_region 1 with (fail)
    generalize w.alloc (.cells #[.int .i64 R, .slice A n c] 41) = W at HB z0 z1 HX ⊢
    go_wp2_with (go_at_call 17; refine (awake_any _).mono ?_; rintro e w2 ⟨rfl, hst⟩; have HB := Lib.hid (HB.out.trans (hst.mono HB.out.size)); clear hst)
    go_ret
    exact ⟨rfl, HB.out⟩
  have t1 : decide (100 < n) = false := decide_eq_false h100
  have t1' : decide ((100 : Int) < (n : Int)) = false := decide_eq_false (by omega)
  have HC1 := Lib.hid (fun W (hW : RuleS W A n fa fh fm) => Lossy_any R A n c fa fh fm W hW hn)
  have HC3 := Lib.hid (fun W (hW : RuleS W A n fa fh fm) => Reliable_any R A n c fa fh fm W hW hn)
  have HED := Lib.hid (rem_facts R n fa fh fm)
  obtain ⟨D, eD⟩ : ∃ D, D = losD R n fa fh fm := ⟨_, rfl⟩
  obtain ⟨G, eG⟩ : ∃ D, D = relD R n fa fh fm := ⟨_, rfl⟩
  obtain ⟨E, eE⟩ : ∃ E, E = losE R n fa fh fm := ⟨_, rfl⟩
  obtain ⟨E', eE'⟩ : ∃ E, E = exErr R n fa fh fm := ⟨_, rfl⟩
  rw [← eD, ← eE] at HC1
  rw [← eG, ← eE'] at HC3
  rw [← eD, ← eE, ← eG, ← eE'] at HED
  clear eD eG eE eE' h100
  go_enter Try.func10, Try.ntmps10
  go_upto_region 1 with (fail)
  generalize w.alloc (.cells #[.int .i64 R, .slice A n c] 41) = W at HB z0 z1 HX ⊢
  go_upto_region 4 with (go_at_call 23; refine (HC1.out _ HX.out).mono ?_; rintro e w3 ⟨x, rfl, hd, hb⟩; obtain ⟨v, rfl, hr⟩ := hd; obtain ⟨Av4, cv4, rfl⟩ := runsO_shape hr; have HD := Lib.hid hr; have HB1 := Lib.hid hb; clear hr hb)
  obtain ⟨V, hV⟩ : ∃ V, V = w3.alloc (.cells #[.int .i64 D.a, .int .i64 D.f, .int .i64 D.l, .slice Av4 D.ps.length cv4] 44) := ⟨_, rfl⟩
  have hbl := below_alloc w3 (.cells #[.int .i64 D.a, .int .i64 D.f, .int .i64 D.l, .slice Av4 D.ps.length cv4] 44)
  have hbk := Blk.new w3 #[.int .i64 D.a, .int .i64 D.f, .int .i64 D.l, .slice Av4 D.ps.length cv4] 44
  rw [← hV] at hbl hbk ⊢
  have hb13 := HB1.out.trans (hbl.mono HB1.out.size)
  have HX := Lib.hid (HX.out.below hb13)
  have HB := Lib.hid (HB.out.trans (hb13.mono HB.out.size))
  have z0 := cell_below hb13 z0
  have z1 := cell_below hb13 z1
  have HD4 := Lib.hid (HD.out.below hbl)
  have HK4 := Lib.hid hbk
  generalize w3.heap.size = b4 at HK4 ⊢
  clear hV hbl hbk hb13 HB1 HD
  go_upto_region 5 with (go_at_call 26; refine (HC3.out _ HX.out).mono ?_; rintro e w3 ⟨x, rfl, hd, hb⟩; obtain ⟨v, rfl, hr⟩ := hd; obtain ⟨Av5, cv5, rfl⟩ := runsO_shape hr; have HD := Lib.hid hr; have HB1 := Lib.hid hb; clear hr hb)
  obtain ⟨V, hV⟩ : ∃ V, V = w3.alloc (.cells #[.int .i64 G.a, .int .i64 G.f, .int .i64 G.l, .slice Av5 G.ps.length cv5] 44) := ⟨_, rfl⟩
  have hbl := below_alloc w3 (.cells #[.int .i64 G.a, .int .i64 G.f, .int .i64 G.l, .slice Av5 G.ps.length cv5] 44)
  have hbk := Blk.new w3 #[.int .i64 G.a, .int .i64 G.f, .int .i64 G.l, .slice Av5 G.ps.length cv5] 44
  rw [← hV] at hbl hbk ⊢
  have hb13 := HB1.out.trans (hbl.mono HB1.out.size)
  have HX := Lib.hid (HX.out.below hb13)
  have HB := Lib.hid (HB.out.trans (hb13.mono HB.out.size))
  have z0 := cell_below hb13 z0
  have z1 := cell_below hb13 z1
  have HD5 := Lib.hid (HD.out.below hbl)
  have HK5 := Lib.hid hbk
  generalize w3.heap.size = b5 at HK5 ⊢
  have HD4 := Lib.hid (HD4.out.below hb13)
  have HK4 := Lib.hid (HK4.out.below hb13)
  clear hV hbl hbk hb13 HB1 HD HC1 HC3 z0 z1 HX
  obtain ⟨V4, eV⟩ : ∃ V4, V4 = V := ⟨_, rfl⟩
  subst eV
  by_cases hE : E = 0
  case neg =>
    have tE : ((E : Int) != 0) = true := by rw [bne_iff_ne]; omega
    clear hE HED HK4 HK5 HD4 HD5
    go_wp2_with (go_at_call 17; refine (awake_any _).mono ?_; rintro e w2 ⟨rfl, hst⟩; have HB := Lib.hid (HB.out.trans (hst.mono HB.out.size)); clear hst)
    go_ret
    exact ⟨rfl, HB.out⟩
  have tE : ((E : Int) != 0) = false := by rw [hE]; rfl
  obtain ⟨hE', T, ps, snd, eD, eG, hP, hT, hs⟩ := HED.out hE
  have tE' : ((E' : Int) != 0) = false := by rw [hE']; rfl
  obtain ⟨A4, c4, e4, hR4⟩ := good_read (T := T) (by have h := HD4.out; rw [eD] at h; exact h) hP.good hT
  obtain ⟨A5, c5, e5, hR5⟩ := good_read (T := T) (by have h := HD5.out; rw [eG] at h; exact h) (relP T).1 hT
  have k40 : V4.cell? ⟨b4, 0, none⟩ = some (.int .i64 2) := by have h := HK4.out.cell (k := 0) rfl; rw [eD] at h; exact h
  have k41 : V4.cell? ⟨b4, 1, none⟩ = some (.int .i64 1) := by have h := HK4.out.cell (k := 1) rfl; rw [eD] at h; exact h
  have k42 : V4.cell? ⟨b4, 2, none⟩ = some (.int .i64 ((T : Int) + 1)) := by have h := HK4.out.cell (k := 2) rfl; rw [eD] at h; exact h
  have k43 : V4.cell? ⟨b4, 3, none⟩ = some (.slice A4 ps.length c4) := by have h : V4.cell? ⟨b4, 3, none⟩ = some (.slice Av4 D.ps.length cv4) := HK4.out.cell (k := 3) rfl; rw [eD] at h; exact h.trans (congrArg some e4)
  have k50 : V4.cell? ⟨b5, 0, none⟩ = some (.int .i64 2) := by have h := HK5.out.cell (k := 0) rfl; rw [eG] at h; exact h
  have k51 : V4.cell? ⟨b5, 1, none⟩ = some (.int .i64 1) := by have h := HK5.out.cell (k := 1) rfl; rw [eG] at h; exact h
  have k52 : V4.cell? ⟨b5, 2, none⟩ = some (.int .i64 ((T : Int) + 1)) := by have h := HK5.out.cell (k := 2) rfl; rw [eG] at h; exact h
  have k53 : V4.cell? ⟨b5, 3, none⟩ = some (.slice A5 2 c5) := by have h : V4.cell? ⟨b5, 3, none⟩ = some (.slice Av5 G.ps.length cv5) := HK5.out.cell (k := 3) rfl; rw [eG] at h; exact h.trans (congrArg some (by rw [e5, (relP T).2.1]))
  have hRL : (relB T 2).length = 2 := (relP T).2.1
  rw [hRL] at hR5
  have h2 := ps_chk hP.good hT (by have := hP.len; omega) hP.len.2
  have h3 := ps_chk (relP T).1 hT (by omega) (by omega)
  rw [hRL] at h3
  have HY := Lib.hid (fun X (hX : Below V4.heap.size V4 X) => Sync_yes (.agg #[.int .i64 2, .int .i64 1, .int .i64 ((T : Int) + 1), .slice A4 ps.length c4]) 2 1 ((T : Int) + 1) ps.length _ _ (psL snd ps) _ _ X ⟨A4, c4, rfl, hR4.below hX⟩ (by have := hP.len; omega) h2 (fun r t r' t' g hr ht hr' ht' hg hne e => hne (psL_time hP.good hs hT hr (by omega) hr' (by omega) e).1))
  have HR := Lib.hid (fun X (hX : Below V4.heap.size V4 X) => Recalls_yes (.agg #[.int .i64 2, .int .i64 1, .int .i64 ((T : Int) + 1), .slice A4 ps.length c4]) 2 1 ((T : Int) + 1) ps.length _ _ (psL snd ps) _ _ X ⟨A4, c4, rfl, hR4.below hX⟩ (by have := hP.len; omega) h2 (fun r t r' t' g hr ht hr' ht' hg e => psL_his hP.good hs hT hr (by omega) hr' (by omega) e))
  have HC4 := Lib.hid (fun X (hX : Below V4.heap.size V4 X) => rCheckS_any (.agg #[.int .i64 2, .int .i64 1, .int .i64 ((T : Int) + 1), .slice A4 ps.length c4]) 2 1 ((T : Int) + 1) ps.length _ _ (psL snd ps) _ _ X ⟨A4, c4, rfl, hR4.below hX⟩ (by have := hP.len; omega))
  have HC5 := Lib.hid (fun X (hX : Below V4.heap.size V4 X) => rCheckS_any (.agg #[.int .i64 2, .int .i64 1, .int .i64 ((T : Int) + 1), .slice A5 2 c5]) 2 1 ((T : Int) + 1) 2 _ _ (psL snd (relB T 2)) _ _ X ⟨A5, c5, rfl, hR5.below hX⟩ (by decide))
  rw [h2] at HC4
  rw [h3] at HC5
  have HPP := Lib.hid hP
  have HTT := Lib.hid hT
  have HSS := Lib.hid hs
  have hlen := hP.len
  have HR4 := Lib.hid hR4
  have HR5 := Lib.hid hR5
  obtain ⟨N, eN⟩ : ∃ N, N = ps.length := ⟨_, rfl⟩
  rw [← eN] at k43 HY HR HC4 hlen HR4
  have ENN := Lib.hid eN
  obtain ⟨l, el⟩ : ∃ l, l = (T : Int) + 1 := ⟨_, rfl⟩
  rw [← el] at k42 k52 HY HR HC4 HC5
  have u1 : ((2 : Int) != 2) = false := by decide
  have u2 : decide ((N : Int) < 2) = false := decide_eq_false (by omega)
  have u3 : decide ((64 : Int) < (N : Int)) = false := decide_eq_false (by omega)
  have u4 : decide (N < 2) = false := decide_eq_false (by omega)
  have u5 : decide (64 < N) = false := decide_eq_false (by omega)
  clear hE hE' eD eG hP hT hs hR4 hR5 e4 e5 h2 h3 HED HK4 HK5 HD4 HD5 hRL el eN
  go_upto_region 9 with (first
    | (have hq := HBV.out; go_at_call 39; refine (HC5.out _ hq).mono ?_; rintro e w8 ⟨rfl, hb1⟩; have k40 := cell_below hb1 k40; have k41 := cell_below hb1 k41; have k42 := cell_below hb1 k42; have k43 := cell_below hb1 k43; have k50 := cell_below hb1 k50; have k51 := cell_below hb1 k51; have k52 := cell_below hb1 k52; have k53 := cell_below hb1 k53; have HBW := Lib.hid (below_trans hq hb1); clear hb1 hq HBV)
    | (go_at_call 39; refine (HC4.out _ (Below.refl _ _)).mono ?_; rintro e w7 ⟨rfl, hb1⟩; have k40 := cell_below hb1 k40; have k41 := cell_below hb1 k41; have k42 := cell_below hb1 k42; have k43 := cell_below hb1 k43; have k50 := cell_below hb1 k50; have k51 := cell_below hb1 k51; have k52 := cell_below hb1 k52; have k53 := cell_below hb1 k53; have HBV := Lib.hid hb1; clear hb1)
    | (go_at_call 40; refine (HY.out _ HBW.out).mono ?_; rintro e w9 ⟨rfl, hb1⟩; have k40 := cell_below hb1 k40; have k41 := cell_below hb1 k41; have k42 := cell_below hb1 k42; have k43 := cell_below hb1 k43; have k50 := cell_below hb1 k50; have k51 := cell_below hb1 k51; have k52 := cell_below hb1 k52; have k53 := cell_below hb1 k53; have HBW := Lib.hid (below_trans HBW.out hb1); clear hb1)
    | (go_at_call 41; refine (HR.out _ HBW.out).mono ?_; rintro e w10 ⟨rfl, hb1⟩; have k40 := cell_below hb1 k40; have k41 := cell_below hb1 k41; have k42 := cell_below hb1 k42; have k43 := cell_below hb1 k43; have k50 := cell_below hb1 k50; have k51 := cell_below hb1 k51; have k52 := cell_below hb1 k52; have k53 := cell_below hb1 k53; have HBW := Lib.hid (below_trans HBW.out hb1); clear hb1)
    | fail)
  have HB := Lib.hid (HB.out.trans (HBW.out.mono HB.out.size))
  have HR4 := Lib.hid (HR4.out.below HBW.out)
  have HR5 := Lib.hid (HR5.out.below HBW.out)
  clear HC4 HC5 HY HR HBW k40 k41 k42 k50 k51 k52 u1 u2 u3 u4 u5 tE tE' t1 t1'
  go_upto_region 10 with (fail)
  obtain ⟨V5, eW⟩ : ∃ V5, V5 = w10 := ⟨_, rfl⟩
  subst eW
  have hba := below_alloc V5 (.cells #[.bool false, .bool false] 63)
  have hbk := Blk.new V5 #[.bool false, .bool false] 63
  have K43 := Lib.hid k43
  have K53 := Lib.hid k53
  have k43 := cell_below hba k43
  have k53 := cell_below hba k53
  have HF0 := Lib.hid hbk
  have HBA := Lib.hid hba
  generalize V5.alloc (.cells #[.bool false, .bool false] 63) = V6 at k43 k53 HF0 HBA ⊢
  obtain ⟨bF, ebF⟩ : ∃ b, b = V5.heap.size := ⟨_, rfl⟩
  have HGE := Lib.hid (Nat.le_of_eq ebF.symm)
  rw [← ebF] at HF0 ⊢
  clear hba hbk ebF
  obtain ⟨g4, o4, rfl⟩ : ∃ g o, A4 = some ⟨g, o, none⟩ := by
    obtain ⟨g, o, _, _, e, -⟩ := HR4.out 0 (by omega)
    exact ⟨g, o, e⟩
  obtain ⟨g5, o5, rfl⟩ : ∃ g o, A5 = some ⟨g, o, none⟩ := by
    obtain ⟨g, o, _, _, e, -⟩ := HR5.out 0 (by omega)
    exact ⟨g, o, e⟩
  go_upto_region 11 with (fail)
  clear k43 k53
  go_loopw [74] (fun iv wr => ∃ i : Nat, i ≤ N ∧ iv = .int .i64 i ∧ (∃ p0 p1 : Bool, Blk wr bF 63 #[.bool p0, .bool p1] ∧ FirI ps i p0 p1) ∧ Below V5.heap.size V5 wr) (fun iv _ => N - (intOf iv).toNat)
  case atStart => exact ⟨0, Nat.zero_le _, rfl, ⟨false, false, HF0.out, FirI.zero ps⟩, HBA.out⟩
  case round =>
    clear HF0 HBA
    obtain ⟨i, hi, rfl, ⟨p0, p1, hbk, hfi⟩, hb⟩ := hrel
    have HBW := Lib.hid hb
    have HFI := Lib.hid hfi
    by_cases hlt : i < N
    · obtain ⟨Ax, cx, Bx, dx, x0, x1, hrx, hux⟩ := runs_at (HR4.out.below hb) hlt
      have hii : (i : Int) < (N : Int) := by omega
      have k43 := cell_below HBW.out K43.out
      have k53 := cell_below HBW.out K53.out
      have HRX := Lib.hid hrx
      have HUX := Lib.hid hux
      have hle := (HPP.out.good _ (ppR_mem (ps := ps) (i := i) (by rw [← ENN.out]; exact hlt)))
      have HLE := Lib.hid hle
      obtain ⟨TX, eTX⟩ : ∃ q, q = (ppR ps i).2.length + 1 := ⟨_, rfl⟩
      have ETX := Lib.hid eTX
      rw [← eTX] at x0 x1 HRX HUX
      have hTX : 1 ≤ TX ∧ TX ≤ 65536 := ⟨by rw [eTX]; omega, by rw [eTX, hle.2.1]; have := HTT.out; omega⟩
      have HBK := Lib.hid hbk
      clear hb hfi hrx hux eTX hle hbk
      go_upto_region 13 with (fail)
      have hba := below_alloc wr (.cells #[.slice Ax TX cx, .slice Bx TX dx] 30)
      have hbx := Blk.new wr #[.slice Ax TX cx, .slice Bx TX dx] 30
      have HBK := Lib.hid (HBK.out.below hba)
      have k43 := cell_below hba k43
      have k53 := cell_below hba k53
      have HRX := Lib.hid (HRX.out.below hba)
      have HUX := Lib.hid (HUX.out.below hba)
      have HBW := Lib.hid (below_trans HBW.out hba)
      have HXK := Lib.hid hbx
      generalize wr.alloc (.cells #[.slice Ax TX cx, .slice Bx TX dx] 30) = V6 at k43 k53 HBK HRX HUX HBW HXK ⊢
      generalize wr.heap.size = bx at HXK ⊢
      clear hba hbx x0 x1
      have HK43 := Lib.hid k43
      have HK53 := Lib.hid k53
      clear k43 k53
      go_wp2_with fail
      go_loopw [80] (fun kv wz => ∃ k : Nat, k ≤ i ∧ kv = .int .i64 k ∧ Below V6.heap.size V6 wz) (fun kv _ => i - (intOf kv).toNat)
      case atStart => exact ⟨0, Nat.zero_le _, rfl, Below.refl _ _⟩
      case round =>
        obtain ⟨k, hk, rfl, hb⟩ := hrel
        have HBZ := Lib.hid hb
        by_cases hkl : k < i
        · obtain ⟨Ay, cy, By, dy, y0, y1, hry, -⟩ := runs_at (HR4.out.below (below_trans HBW.out hb)) (show k < N by omega)
          have hkk : (k : Int) < (i : Int) := by omega
          have hkN : (k : Int) < (N : Int) := by omega
          have x0 := (HXK.out.below hb).cell (k := 0) rfl
          have x1 := (HXK.out.below hb).cell (k := 1) rfl
          have k43 := cell_below hb HK43.out
          obtain ⟨TY, eTY⟩ : ∃ q, q = (ppR ps k).2.length + 1 := ⟨_, rfl⟩
          rw [← eTY] at y0 y1
          have HSR := Lib.hid (fun X (hX : Below wr.heap.size wr X) => SameRun_any (.agg #[.slice Ax TX cx, .slice Bx TX dx]) (.agg #[.slice Ay TY cy, .slice By TY dy]) _ _ _ _ _ _ _ _ _ _ X ((HRX.out.below hb).below hX) (by rw [eTY]; exact hry.below hX) hTX.2 hTX.2 false ⟨fun h => Bool.noConfusion h, fun h => absurd (by rw [ETX.out] at h; exact h) (HPP.out.diff i k (by rw [← ENN.out]; exact hlt) hkl)⟩)
          clear hb hry eTY
          have HSOF := Lib.hid (fun (z : World) (h : Below wr.heap.size wr z) => (⟨h, cell_below h k43, cell_below h x0, cell_below h x1, cell_below h y0, cell_below h y1⟩ : Below wr.heap.size wr z ∧ z.cell? ⟨b4, 3, none⟩ = some (.slice (some ⟨g4, o4, none⟩) N c4) ∧ z.cell? ⟨bx, 0, none⟩ = some (.slice Ax TX cx) ∧ z.cell? ⟨bx, 1, none⟩ = some (.slice Bx TX dx) ∧ z.cell? ⟨g4, o4 + k * 2, none⟩ = some (.slice Ay TY cy) ∧ z.cell? ⟨g4, o4 + k * 2 + 1, none⟩ = some (.slice By TY dy)))
          have hb0 := Below.refl wr.heap.size wr
          have tok1 : True := trivial
          clear k43 x0 x1 y0 y1
          go_wp2_with fail
          go_region_held3 (fun z => Below wr.heap.size wr z ∧ z.cell? ⟨b4, 3, none⟩ = some (.slice (some ⟨g4, o4, none⟩) N c4) ∧ z.cell? ⟨bx, 0, none⟩ = some (.slice Ax TX cx) ∧ z.cell? ⟨bx, 1, none⟩ = some (.slice Bx TX dx) ∧ z.cell? ⟨g4, o4 + k * 2, none⟩ = some (.slice Ay TY cy) ∧ z.cell? ⟨g4, o4 + k * 2 + 1, none⟩ = some (.slice By TY dy)) (first | exact HSOF.out _ (by assumption) | exact HSOF.out _ (below_drew hb0) | exact HSOF.out _ (below_trans (And.left (by assumption)) (by assumption)))
            ((go_at_call 20; refine (HSR.out _ (And.left (by assumption))).mono ?_; rintro e w7 ⟨rfl, hb1⟩; have HB7 := below_trans (And.left (by assumption)) hb1; clear hb1))
          go_wp2_with fail
          go_roundw
          case rel => exact ⟨k + 1, by omega, by go_num, below_trans HBZ.out HB7⟩
          case measure => simp [intOf]; omega
        · obtain rfl : i = k := by omega
          have hkk : ¬ (i : Int) < (i : Int) := by omega
          have HBW := Lib.hid (below_trans HBW.out hb)
          have HBK := Lib.hid (HBK.out.below hb)
          have HRX := Lib.hid (HRX.out.below hb)
          have HUX := Lib.hid (HUX.out.below hb)
          have HXK := Lib.hid (HXK.out.below hb)
          have x0 := HXK.out.cell (k := 0) rfl
          have x1 := HXK.out.cell (k := 1) rfl
          have k53 := cell_below hb HK53.out
          obtain ⟨gb, gf, rfl, f0, -⟩ := HUX.out 0 hTX.1
          have hTX0 : (0 : Int) < (TX : Int) := by omega
          clear hb HBZ
          rcases HLE.out.1 with e0 | e0
          · have EB := Lib.hid e0
            have f0 : wr.cell? ⟨gb, gf, none⟩ = some (.int .u64 0) := by have h := f0; rw [e0] at h; exact h
            have ebt : bits BinOp.and .u64 0 1 = 0 := by decide
            clear e0
            cases p0
            · obtain ⟨Ay, cy, By, dy, y0, y1, hry, -⟩ := runs_at (HR5.out.below HBW.out) (show 0 < 2 by omega)
              have hzz := HPP.out.first i (by rw [← ENN.out]; exact hlt) (HFI.out.none0 EB.out)
              have hpp : ppR ps i = ppR (relB T 2) 0 := by rw [(relP T).2.2.1]; exact Prod.ext EB.out hzz
              have y0 : wr.cell? ⟨g5, o5, none⟩ = some (.slice Ay TX cy) := by rw [ETX.out, hpp]; exact y0
              have y1 : wr.cell? ⟨g5, o5 + 1, none⟩ = some (.slice By TX dy) := by rw [ETX.out, hpp]; exact y1
              have HSR := Lib.hid (fun X (hX : Below wr.heap.size wr X) => SameRun_any (.agg #[.slice Ax TX cx, .slice (some ⟨gb, gf, none⟩) TX dx]) (.agg #[.slice Ay TX cy, .slice By TX dy]) _ _ _ _ _ _ _ _ _ _ X (HRX.out.below hX) (by have h := hry.below hX; rw [← hpp, ← ETX.out] at h; exact h) hTX.2 hTX.2 true ⟨fun _ => ⟨rfl, rfl, fun t _ => ⟨rfl, fun g _ => by show psL snd ps i t g = psL snd (relB T 2) 0 t g; unfold psL; rw [hpp]⟩, fun t _ => rfl⟩, fun _ => rfl⟩)
              have q0 : wr.cell? ⟨bF, 0, none⟩ = some (.bool false) := HBK.out.cell rfl
              have q1 : wr.cell? ⟨bF, 1, none⟩ = some (.bool p1) := HBK.out.cell rfl
              clear hry hpp hzz
              have HSOF := Lib.hid (fun (z : World) (h : Below wr.heap.size wr z) => (⟨h, cell_below h k53, cell_below h x0, cell_below h x1, cell_below h y0, cell_below h y1, cell_below h q0, cell_below h q1⟩ : Below wr.heap.size wr z ∧ z.cell? ⟨b5, 3, none⟩ = some (.slice (some ⟨g5, o5, none⟩) 2 c5) ∧ z.cell? ⟨bx, 0, none⟩ = some (.slice Ax TX cx) ∧ z.cell? ⟨bx, 1, none⟩ = some (.slice (some ⟨gb, gf, none⟩) TX dx) ∧ z.cell? ⟨g5, o5, none⟩ = some (.slice Ay TX cy) ∧ z.cell? ⟨g5, o5 + 1, none⟩ = some (.slice By TX dy) ∧ z.cell? ⟨bF, 0, none⟩ = some (.bool false) ∧ z.cell? ⟨bF, 1, none⟩ = some (.bool p1)))
              have hb0 := Below.refl wr.heap.size wr
              have tok1 : True := trivial
              go_upto_region 20 with (fail)
              clear k53 x0 x1 y0 y1 q0 q1 f0
              go_region_held3 (fun z => Below wr.heap.size wr z ∧ z.cell? ⟨b5, 3, none⟩ = some (.slice (some ⟨g5, o5, none⟩) 2 c5) ∧ z.cell? ⟨bx, 0, none⟩ = some (.slice Ax TX cx) ∧ z.cell? ⟨bx, 1, none⟩ = some (.slice (some ⟨gb, gf, none⟩) TX dx) ∧ z.cell? ⟨g5, o5, none⟩ = some (.slice Ay TX cy) ∧ z.cell? ⟨g5, o5 + 1, none⟩ = some (.slice By TX dy) ∧ z.cell? ⟨bF, 0, none⟩ = some (.bool false) ∧ z.cell? ⟨bF, 1, none⟩ = some (.bool p1)) (first | exact HSOF.out _ (by assumption) | exact HSOF.out _ (below_drew hb0) | exact HSOF.out _ (below_trans (And.left (by assumption)) (by assumption)))
                ((go_at_call 20; refine (HSR.out _ (And.left (by assumption))).mono ?_; rintro e w7 ⟨rfl, hb1⟩; have HB7 := below_trans (And.left (by assumption)) hb1; clear hb1))
              have HBW := Lib.hid (below_trans HBW.out HB7)
              have HBK := Lib.hid (HBK.out.below HB7)
              have q0 := HBK.out.cell (k := 0) rfl
              have q1 := HBK.out.cell (k := 1) rfl
              have fz0 := HBK.out.frozen (k := 0)
              have fz1 := HBK.out.frozen (k := 1)
              clear HSOF hb0
              go_wp2_with fail
              go_roundw
              case rel => exact ⟨i + 1, by omega, by go_num, ⟨true, p1, (HBK.out.set 0 (.bool true)), HFI.out.step0 EB.out⟩, HBW.out.setCell (p := ⟨bF, 0, none⟩) HGE.out _⟩
              case measure => simp [intOf]; omega
            · have q0 : wr.cell? ⟨bF, 0, none⟩ = some (.bool true) := HBK.out.cell rfl
              have q1 : wr.cell? ⟨bF, 1, none⟩ = some (.bool p1) := HBK.out.cell rfl
              go_upto_region 20 with (fail)
              go_quiet (fail)
              generalize hV : World.drewN _ _ = V9
              have HB9 : Below wr.heap.size wr V9 := by rw [← hV]; exact below_drewN (Below.refl _ _) _
              have HBW := Lib.hid (below_trans HBW.out HB9)
              have HBK := Lib.hid (HBK.out.below HB9)
              have q0 := HBK.out.cell (k := 0) rfl
              have q1 := HBK.out.cell (k := 1) rfl
              have fz0 := HBK.out.frozen (k := 0)
              have fz1 := HBK.out.frozen (k := 1)
              clear hV HB9
              go_wp2_with fail
              go_roundw
              case rel => exact ⟨i + 1, by omega, by go_num, ⟨true, p1, (HBK.out.set 0 (.bool true)), HFI.out.step0 EB.out⟩, HBW.out.setCell (p := ⟨bF, 0, none⟩) HGE.out _⟩
              case measure => simp [intOf]; omega
          · have EB := Lib.hid e0
            have f0 : wr.cell? ⟨gb, gf, none⟩ = some (.int .u64 1) := by have h := f0; rw [e0] at h; exact h
            have ebt : bits BinOp.and .u64 1 1 = 1 := by decide
            clear e0
            cases p1
            · obtain ⟨Ay, cy, By, dy, y0, y1, hry, -⟩ := runs_at (HR5.out.below HBW.out) (show 1 < 2 by omega)
              have hzz := HPP.out.first i (by rw [← ENN.out]; exact hlt) (HFI.out.none1 EB.out)
              have hpp : ppR ps i = ppR (relB T 2) 1 := by rw [(relP T).2.2.2]; exact Prod.ext EB.out hzz
              have y0 : wr.cell? ⟨g5, o5 + 2, none⟩ = some (.slice Ay TX cy) := by rw [ETX.out, hpp]; exact y0
              have y1 : wr.cell? ⟨g5, o5 + 2 + 1, none⟩ = some (.slice By TX dy) := by rw [ETX.out, hpp]; exact y1
              have HSR := Lib.hid (fun X (hX : Below wr.heap.size wr X) => SameRun_any (.agg #[.slice Ax TX cx, .slice (some ⟨gb, gf, none⟩) TX dx]) (.agg #[.slice Ay TX cy, .slice By TX dy]) _ _ _ _ _ _ _ _ _ _ X (HRX.out.below hX) (by have h := hry.below hX; rw [← hpp, ← ETX.out] at h; exact h) hTX.2 hTX.2 true ⟨fun _ => ⟨rfl, rfl, fun t _ => ⟨rfl, fun g _ => by show psL snd ps i t g = psL snd (relB T 2) 1 t g; unfold psL; rw [hpp]⟩, fun t _ => rfl⟩, fun _ => rfl⟩)
              have q0 : wr.cell? ⟨bF, 0, none⟩ = some (.bool p0) := HBK.out.cell rfl
              have q1 : wr.cell? ⟨bF, 1, none⟩ = some (.bool false) := HBK.out.cell rfl
              clear hry hpp hzz
              have HSOF := Lib.hid (fun (z : World) (h : Below wr.heap.size wr z) => (⟨h, cell_below h k53, cell_below h x0, cell_below h x1, cell_below h y0, cell_below h y1, cell_below h q0, cell_below h q1⟩ : Below wr.heap.size wr z ∧ z.cell? ⟨b5, 3, none⟩ = some (.slice (some ⟨g5, o5, none⟩) 2 c5) ∧ z.cell? ⟨bx, 0, none⟩ = some (.slice Ax TX cx) ∧ z.cell? ⟨bx, 1, none⟩ = some (.slice (some ⟨gb, gf, none⟩) TX dx) ∧ z.cell? ⟨g5, o5 + 2, none⟩ = some (.slice Ay TX cy) ∧ z.cell? ⟨g5, o5 + 2 + 1, none⟩ = some (.slice By TX dy) ∧ z.cell? ⟨bF, 0, none⟩ = some (.bool p0) ∧ z.cell? ⟨bF, 1, none⟩ = some (.bool false)))
              have hb0 := Below.refl wr.heap.size wr
              have tok1 : True := trivial
              go_upto_region 20 with (fail)
              clear k53 x0 x1 y0 y1 q0 q1 f0
              go_region_held3 (fun z => Below wr.heap.size wr z ∧ z.cell? ⟨b5, 3, none⟩ = some (.slice (some ⟨g5, o5, none⟩) 2 c5) ∧ z.cell? ⟨bx, 0, none⟩ = some (.slice Ax TX cx) ∧ z.cell? ⟨bx, 1, none⟩ = some (.slice (some ⟨gb, gf, none⟩) TX dx) ∧ z.cell? ⟨g5, o5 + 2, none⟩ = some (.slice Ay TX cy) ∧ z.cell? ⟨g5, o5 + 2 + 1, none⟩ = some (.slice By TX dy) ∧ z.cell? ⟨bF, 0, none⟩ = some (.bool p0) ∧ z.cell? ⟨bF, 1, none⟩ = some (.bool false)) (first | exact HSOF.out _ (by assumption) | exact HSOF.out _ (below_drew hb0) | exact HSOF.out _ (below_trans (And.left (by assumption)) (by assumption)))
                ((go_at_call 20; refine (HSR.out _ (And.left (by assumption))).mono ?_; rintro e w7 ⟨rfl, hb1⟩; have HB7 := below_trans (And.left (by assumption)) hb1; clear hb1))
              have HBW := Lib.hid (below_trans HBW.out HB7)
              have HBK := Lib.hid (HBK.out.below HB7)
              have q0 := HBK.out.cell (k := 0) rfl
              have q1 := HBK.out.cell (k := 1) rfl
              have fz0 := HBK.out.frozen (k := 0)
              have fz1 := HBK.out.frozen (k := 1)
              clear HSOF hb0
              go_wp2_with fail
              go_roundw
              case rel => exact ⟨i + 1, by omega, by go_num, ⟨p0, true, (HBK.out.set 1 (.bool true)), HFI.out.step1 EB.out⟩, HBW.out.setCell (p := ⟨bF, 1, none⟩) HGE.out _⟩
              case measure => simp [intOf]; omega
            · have q0 : wr.cell? ⟨bF, 0, none⟩ = some (.bool p0) := HBK.out.cell rfl
              have q1 : wr.cell? ⟨bF, 1, none⟩ = some (.bool true) := HBK.out.cell rfl
              go_upto_region 20 with (fail)
              go_quiet (fail)
              generalize hV : World.drewN _ _ = V9
              have HB9 : Below wr.heap.size wr V9 := by rw [← hV]; exact below_drewN (Below.refl _ _) _
              have HBW := Lib.hid (below_trans HBW.out HB9)
              have HBK := Lib.hid (HBK.out.below HB9)
              have q0 := HBK.out.cell (k := 0) rfl
              have q1 := HBK.out.cell (k := 1) rfl
              have fz0 := HBK.out.frozen (k := 0)
              have fz1 := HBK.out.frozen (k := 1)
              clear hV HB9
              go_wp2_with fail
              go_roundw
              case rel => exact ⟨i + 1, by omega, by go_num, ⟨p0, true, (HBK.out.set 1 (.bool true)), HFI.out.step1 EB.out⟩, HBW.out.setCell (p := ⟨bF, 1, none⟩) HGE.out _⟩
              case measure => simp [intOf]; omega
    · obtain rfl : i = N := by omega
      have hii : ¬ (i : Int) < (i : Int) := by omega
      obtain ⟨rfl, rfl⟩ := (show FirI ps ps.length p0 p1 by rw [← ENN.out]; exact hfi).all HPP.out
      have q0 := hbk.cell (k := 0) rfl
      have q1 := hbk.cell (k := 1) rfl
      have HB := Lib.hid (HB.out.trans (hb.mono HB.out.size))
      clear hb hbk hfi
      go_wp2_with (go_at_call 17; refine (awake_any _).mono ?_; rintro e w2 ⟨rfl, hst⟩; have HB := Lib.hid (HB.out.trans (hst.mono HB.out.size)); clear hst)
      go_ret
      exact ⟨rfl, HB.out⟩
end Go.Proofs.Ytgnkeecjaffnaaa
