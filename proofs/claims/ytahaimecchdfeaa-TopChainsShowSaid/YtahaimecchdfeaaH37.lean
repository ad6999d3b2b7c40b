/-
  Texts of this claim, one after the other: what each proves is said at its head. No condition beyond those that its theorems name.
-/
import Derived.Test.YtahaimecchdfeaaProg
import Derived.Deep.DeepCutAuto
import Derived.Deep.RegionHeld3
import Derived.Shelf.RegionOpenPlain
import Derived.Test.YtahaimecchdfeaaH01
import Derived.Test.YtahaimecchdfeaaH03
import Derived.Test.YtahaimecchdfeaaH06
import Derived.Test.YtahaimecchdfeaaH09
import Derived.Test.YtahaimecchdfeaaH13
import Derived.Test.YtahaimecchdfeaaH16
import Derived.Test.YtahaimecchdfeaaH20
import Derived.Test.YtahaimecchdfeaaH21
import Derived.Test.YtahaimecchdfeaaH23
import Derived.Test.YtahaimecchdfeaaH25
import Derived.Test.YtahaimecchdfeaaH27
import Derived.Test.YtahaimecchdfeaaH29
import Derived.Test.YtahaimecchdfeaaH31
import Derived.Test.YtahaimecchdfeaaH32
import Derived.Test.YtahaimecchdfeaaH33
import Derived.Test.YtahaimecchdfeaaH35
import Derived.Test.YtahaimecchdfeaaH36

/-
  Walk of awake: the example that every law of layer 57 asks first.
-/
namespace Go.Proofs.Ytahaimecchdfeaa
open Go.RowKit

/-- Rules of the call's own, read. -/
theorem RuO.rules {w : World} {base : Nat} {A : Option Addr} {n c : Nat} {l : List (Int × Int × Int)} (h : RuO w base (.slice A n c) l) (hb : ∀ k, k < l.length → (-9223372036854775808 ≤ l[k]!.1 ∧ l[k]!.1 ≤ 9223372036854775807) ∧ (-9223372036854775808 ≤ l[k]!.2.1 ∧ l[k]!.2.1 ≤ 9223372036854775807) ∧ (-9223372036854775808 ≤ l[k]!.2.2 ∧ l[k]!.2.2 ≤ 9223372036854775807)) :
    RuleS w A l.length (fun k => l[k]!.1) (fun k => l[k]!.2.1) (fun k => l[k]!.2.2) := fun k hk => by
  obtain ⟨b, e, h0, h1, h2⟩ := h.at hk
  exact ⟨b, 0, e, by rw [Nat.zero_add]; exact h0, by rw [Nat.zero_add]; exact h1, by rw [Nat.zero_add]; exact h2, hb k hk⟩
theorem RuleS.congr {w : World} {A : Option Addr} {n : Nat} {fa fh fm fa' fh' fm' : Nat → Int} (h : RuleS w A n fa fh fm) (e : ∀ k, k < n → fa k = fa' k ∧ fh k = fh' k ∧ fm k = fm' k) : RuleS w A n fa' fh' fm' := fun k hk => by
  obtain ⟨e1, e2, e3⟩ := e k hk
  rw [← e1, ← e2, ← e3]
  exact h k hk
theorem lt2 {p : Nat → Prop} (h0 : p 0) (h1 : p 1) : ∀ k, k < 2 → p k
  | 0, _ => h0
  | 1, _ => h1
  | _ + 2, h => absurd h (by omega)
theorem ex_rules {w : World} {base : Nat} {A : Option Addr} {c : Nat} (h : RuO w base (.slice A 2 c) (altS 2)) : RuleS w A 2 exA exH exM := by
  have hl : (altS 2).length = 2 := by decide
  have := h.rules (by rw [hl]; exact lt2 (by decide) (by decide))
  rw [hl] at this
  exact this.congr (lt2 (by decide) (by decide))
theorem ex_rules2 {w : World} {b : Nat} (h : Blk w b 71 #[.int .i64 0, .int .i64 5, .int .i64 1, .int .i64 1, .int .i64 17, .int .i64 1]) : RuleS w (some ⟨b, 0, none⟩) 2 exA exH exM :=
  lt2 ⟨b, 0, rfl, h.cell (k := 0) rfl, h.cell (k := 1) rfl, h.cell (k := 2) rfl, by decide, by decide, by decide⟩ ⟨b, 0, rfl, h.cell (k := 3) rfl, h.cell (k := 4) rfl, h.cell (k := 5) rfl, by decide, by decide, by decide⟩
theorem ex_alt2 (w : World) : Calls Try.prog 28 #[.int .i64 2] w fun e w' => ∃ A c, e = .returned (.tuple #[.agg #[.int .i64 2, .slice A 2 c], .int .i64 0]) ∧ RuleS w' A 2 exA exH exM ∧ Below w.heap.size w w' := by
  refine (Alternating_any 2 w).mono ?_
  rintro e w' ⟨v, rfl, ho, hb⟩
  rw [if_pos (by decide)] at ho
  obtain ⟨A, c, rfl⟩ := ho.shape
  rw [show (altS (2 : Int).toNat).length = 2 by decide] at ho ⊢
  exact ⟨A, c, by rw [if_pos (by decide), if_pos (by decide)], ex_rules ho, hb⟩
theorem ex_lossy {w : World} {A : Option Addr} {c : Nat} (h : RuleS w A 2 exA exH exM) : Calls Try.prog 27 #[.agg #[.int .i64 2, .slice A 2 c]] w fun e w' => ∃ B d, e = .returned (.tuple #[.agg #[.int .i64 2, .int .i64 1, .int .i64 3, .slice B 4 d], .int .i64 0]) ∧ SysR w' (.agg #[.int .i64 2, .int .i64 1, .int .i64 3, .slice B 4 d]) 2 1 3 4 (lT exPs) (fun _ _ => 2) (psL exS exPs) (lT exPs) (lF exPs) ∧ Below w.heap.size w w' := by
  refine (Lossy_any 2 A 2 c exA exH exM w h (by decide)).mono ?_
  rintro e w' ⟨x, rfl, ho, hb⟩
  obtain ⟨hls, -, -, -, -⟩ := los_sys ho ex_losE
  have hl : (losRs (sndV 2 exA exH exM) (2 : Int).toNat).length = 4 := ex_len
  have h2 := hls
  unfold LsS at h2
  rw [hl] at h2
  obtain ⟨B, d, rfl, -⟩ := h2
  refine ⟨B, d, by rw [ex_losE]; rfl, ?_, hb⟩
  have h3 := hls
  unfold LsS at h3
  rw [hl] at h3
  exact h3
/-- The example's system. -/
def SysX (w : World) (B : Option Addr) (d : Nat) : Prop := SysR w (.agg #[.int .i64 2, .int .i64 1, .int .i64 3, .slice B 4 d]) 2 1 3 4 (lT exPs) (fun _ _ => 2) (psL exS exPs) (lT exPs) (lF exPs)
theorem SysX.below {w w' : World} {B : Option Addr} {d : Nat} (h : SysX w B d) (hb : Below w.heap.size w w') : SysX w' B d := by
  obtain ⟨A, c, e, hr⟩ := h
  exact ⟨A, c, e, hr.below hb⟩
theorem ex_depth1 {w : World} {B : Option Addr} {d : Nat} (h : SysX w B d) : Calls Try.prog 21 #[.agg #[.int .i64 2, .int .i64 1, .int .i64 3, .slice B 4 d], .agg #[.int .i64 1, .int .i64 2], .int .i64 0, .int .i64 9] w fun e w' => e = .returned (.tuple #[.int .i64 2, .int .i64 0]) ∧ Below w.heap.size w w' := by
  have := Depth_any _ _ _ _ _ _ _ _ _ _ 1 2 0 9 w h (by decide)
  rw [ex_dep1.1, ex_dep1.2] at this
  exact this
theorem ex_depth3 {w : World} {B : Option Addr} {d : Nat} (h : SysX w B d) : Calls Try.prog 21 #[.agg #[.int .i64 2, .int .i64 1, .int .i64 3, .slice B 4 d], .agg #[.int .i64 3, .int .i64 2], .int .i64 0, .int .i64 9] w fun e w' => e = .returned (.tuple #[.int .i64 0, .int .i64 0]) ∧ Below w.heap.size w w' := by
  have := Depth_any _ _ _ _ _ _ _ _ _ _ 3 2 0 9 w h (by decide)
  rw [ex_dep3.1, ex_dep3.2] at this
  exact this
theorem ex_delivered {w : World} {B : Option Addr} {d : Nat} (h : SysX w B d) : Calls Try.prog 18 #[.agg #[.int .i64 2, .int .i64 1, .int .i64 3, .slice B 4 d], .agg #[.int .i64 2, .int .i64 2]] w fun e w' => e = .returned (.tuple #[.int .i64 1, .int .i64 0]) ∧ Below w.heap.size w w' := by
  have := Delivered_any _ _ _ _ _ _ _ _ _ _ 2 2 w h (by decide)
  rw [ex_del.1, ex_del.2] at this
  exact this
theorem ex_common {w : World} {B : Option Addr} {d : Nat} (h : SysX w B d) : Calls Try.prog 16 #[.agg #[.int .i64 2, .int .i64 1, .int .i64 3, .slice B 4 d], .agg #[.int .i64 1, .int .i64 2], .int .i64 0] w fun e w' => e = .returned (.tuple #[.bool false, .int .i64 0]) ∧ Below w.heap.size w w' := by
  have := Common_any _ _ _ _ _ _ _ _ _ _ 1 2 0 w h (by decide)
  rw [ex_com.1, ex_com.2] at this
  exact this
theorem ex_component {w : World} {B : Option Addr} {d : Nat} (h : SysX w B d) : Calls Try.prog 14 #[.agg #[.int .i64 2, .int .i64 1, .int .i64 3, .slice B 4 d], .agg #[.int .i64 1, .int .i64 2]] w fun e w' => ∃ D c, e = .returned (.tuple #[.slice D 4 c, .int .i64 0]) ∧ PtS w' D 4 (fun k => (([(0, 2), (1, 2), (2, 2), (3, 2)] : List (Nat × Nat)).getD k (0, 0)).1) (fun k => (([(0, 2), (1, 2), (2, 2), (3, 2)] : List (Nat × Nat)).getD k (0, 0)).2) ∧ Below w.heap.size w w' := by
  refine (Component_any _ _ _ _ _ _ _ _ _ _ 1 2 w h (by decide)).mono ?_
  rintro e w' ⟨v, rfl, hp, hb⟩
  rw [ex_cmpP] at hp
  obtain ⟨D, c, rfl⟩ := hp.shape
  exact ⟨D, c, by rw [ex_ent]; rfl, hp.pts, hb⟩
theorem ex_chn {w : World} {A : Option Addr} {c : Nat} (h : RuleS w A 2 exA exH exM) : Calls Try.prog 25 #[.agg #[.int .i64 2, .slice A 2 c], .agg #[.int .i64 1, .int .i64 2]] w fun e w' => ∃ D c, e = .returned (.tuple #[.slice D 4 c, .int .i64 0]) ∧ Below w.heap.size w w' := by
  refine (Chain_any 2 A 2 c exA exH exM 1 2 w h (by decide)).mono ?_
  rintro e w' ⟨v, E, rfl, hb, ps, eps, hc⟩
  have hl : ps.length = 4 := by rw [eps]; exact ex_len
  have hps : ps = exPs := eps
  subst hps
  rcases hc with ⟨h1, -⟩ | ⟨-, h1, -⟩ | ⟨-, -, ⟨l, rfl, hok, hp⟩ | ⟨-, -, hno⟩⟩
  · exact absurd ex_losE h1
  · rw [ex_len] at h1
    exact absurd (by decide) h1
  · rw [ex_len] at hok hp
    have hlen := ex_chain hok
    obtain ⟨D, c', rfl⟩ := hp.shape
    rw [List.length_map, hlen]
    exact ⟨D, c', rfl, hb⟩
  · rw [ex_len] at hno
    exact absurd (hno 3 2 ex_w3) ex_f2
/-- The example's chain, as points. -/
theorem ex_crs {w : World} {b : Nat} (h : Blk w b 26 #[.int .i64 1, .int .i64 2, .int .i64 2, .int .i64 2, .int .i64 3, .int .i64 2, .int .i64 0, .int .i64 2]) (m : Nat) (hm : m ≤ 4) : CrS w (some ⟨b, 0, none⟩) m exX (fun _ => 2) := fun k hk => by
  have : k = 0 ∨ k = 1 ∨ k = 2 ∨ k = 3 := by omega
  rcases this with rfl | rfl | rfl | rfl
  · exact ⟨b, 0, rfl, h.cell (k := 0) rfl, h.cell (k := 1) rfl, by decide, by decide⟩
  · exact ⟨b, 0, rfl, h.cell (k := 2) rfl, h.cell (k := 3) rfl, by decide, by decide⟩
  · exact ⟨b, 0, rfl, h.cell (k := 4) rfl, h.cell (k := 5) rfl, by decide, by decide⟩
  · exact ⟨b, 0, rfl, h.cell (k := 6) rfl, h.cell (k := 7) rfl, by decide, by decide⟩
theorem ex_verify {w : World} {A : Option Addr} {b c m d : Nat} (h : RuleS w A 2 exA exH exM) (hp : Blk w b 26 #[.int .i64 1, .int .i64 2, .int .i64 2, .int .i64 2, .int .i64 3, .int .i64 2, .int .i64 0, .int .i64 2]) (hm : m ≤ 4) :
    Calls Try.prog 23 #[.agg #[.int .i64 2, .slice A 2 c], .slice (some ⟨b, 0, none⟩) m d] w fun e w' => e = .returned (.int .i64 (verV 2 2 exA exH exM m exX (fun _ => 2) : Nat)) ∧ Below w.heap.size w w' :=
  Verify_any 2 A 2 c exA exH exM (some ⟨b, 0, none⟩) m d exX (fun _ => 2) w h (by decide) (ex_crs hp m hm) (by omega)
theorem ex_same {w : World} {D : Option Addr} {b cc : Nat} (h : PtS w D 4 (fun k => (([(0, 2), (1, 2), (2, 2), (3, 2)] : List (Nat × Nat)).getD k (0, 0)).1) (fun k => (([(0, 2), (1, 2), (2, 2), (3, 2)] : List (Nat × Nat)).getD k (0, 0)).2))
    (hp : Blk w b 26 #[.int .i64 0, .int .i64 2, .int .i64 1, .int .i64 2, .int .i64 2, .int .i64 2, .int .i64 3, .int .i64 2]) :
    Calls Try.prog 20 #[.slice D 4 cc, .slice (some ⟨b, 0, none⟩) 4 4] w fun e w' => e = .returned (.bool true) ∧ Below w.heap.size w w' := by
  refine SamePoints_any D (some ⟨b, 0, none⟩) 4 4 cc 4 _ _ (fun k => (([(0, 2), (1, 2), (2, 2), (3, 2)] : List (Nat × Nat)).getD k (0, 0)).1) (fun k => (([(0, 2), (1, 2), (2, 2), (3, 2)] : List (Nat × Nat)).getD k (0, 0)).2) w h (fun k hk => ?_) (by decide) true ⟨fun _ => ⟨rfl, fun _ _ => ⟨rfl, rfl⟩⟩, fun _ => rfl⟩
  have : k = 0 ∨ k = 1 ∨ k = 2 ∨ k = 3 := by omega
  rcases this with rfl | rfl | rfl | rfl
  · exact ⟨b, 0, rfl, hp.cell (k := 0) rfl, hp.cell (k := 1) rfl⟩
  · exact ⟨b, 0, rfl, hp.cell (k := 2) rfl, hp.cell (k := 3) rfl⟩
  · exact ⟨b, 0, rfl, hp.cell (k := 4) rfl, hp.cell (k := 5) rfl⟩
  · exact ⟨b, 0, rfl, hp.cell (k := 6) rfl, hp.cell (k := 7) rfl⟩
set_option maxHeartbeats 4000000 in
set_option maxRecDepth 100000 in
theorem awake_any (w : World) : Calls Try.prog 13 #[] w fun e w' => e = .returned (.bool true) ∧ Below w.heap.size w w' := by
  have HAL := Lib.hid ex_alt2
  go_enter Try.func13, Try.ntmps13
  go_upto_region 2 with (go_at_call 28; refine (HAL.out _).mono ?_; rintro e w1 ⟨A, c, rfl, hr, hb⟩; have HR := Lib.hid hr; have HB := Lib.hid hb; clear hr hb)
  have hbk := Blk.new w1 #[.int .i64 2, .slice A 2 c] 43
  have hba := below_alloc w1 (.cells #[.int .i64 2, .slice A 2 c] 43)
  obtain ⟨V, eV⟩ : ∃ V, V = w1.alloc (.cells #[.int .i64 2, .slice A 2 c] 43) := ⟨_, rfl⟩
  rw [← eV] at hbk hba ⊢
  obtain ⟨b1, eb1⟩ : ∃ b, b = w1.heap.size := ⟨_, rfl⟩
  rw [← eb1] at hbk ⊢
  have HB := Lib.hid (below_trans HB.out hba)
  have HR := Lib.hid (HR.out.below hba)
  have HK := Lib.hid hbk
  have d0 := hbk.cell (k := 0) rfl
  have d1 := hbk.cell (k := 1) rfl
  have hb2 := below_alloc V (.cells #[.int .i64 0, .int .i64 5, .int .i64 1, .int .i64 1, .int .i64 17, .int .i64 1] 71)
  have HB2 := Lib.hid hb2
  have HSE := Lib.hid (SameExchange_any 2 2 A (some ⟨V.heap.size, 0, none⟩) 2 2 c 2 exA exH exM exA exH exM _ (HR.out.below hb2) (ex_rules2 (Blk.new V #[.int .i64 0, .int .i64 5, .int .i64 1, .int .i64 1, .int .i64 17, .int .i64 1] 71)) (by decide) true ⟨fun _ => ⟨rfl, rfl, fun _ _ => ⟨rfl, rfl, rfl⟩⟩, fun _ => rfl⟩)
  clear hbk hba eV eb1 hb2
  go_upto_region 4 with (go_at_call 32; refine HSE.out.mono ?_; rintro e w2 ⟨rfl, hb3⟩; have HB3 := Lib.hid (below_trans HB2.out hb3); clear hb3)
  have HB := Lib.hid (below_trans HB.out HB3.out)
  have HR := Lib.hid (HR.out.below HB3.out)
  have hk := HK.out.below HB3.out
  have HK := Lib.hid hk
  have d0 := hk.cell (k := 0) rfl
  have d1 := hk.cell (k := 1) rfl
  have HLO := Lib.hid (ex_lossy (c := c) HR.out)
  clear hk HB3 HB2 HSE
  go_upto_region 5 with (go_at_call 27; refine HLO.out.mono ?_; rintro e w3 ⟨B, d, rfl, hsy, hb3⟩; have HSY := Lib.hid hsy; have HB3 := Lib.hid hb3; clear hsy hb3)
  have hbk := Blk.new w3 #[.int .i64 2, .int .i64 1, .int .i64 3, .slice B 4 d] 24
  have hba := below_alloc w3 (.cells #[.int .i64 2, .int .i64 1, .int .i64 3, .slice B 4 d] 24)
  obtain ⟨V2, eV⟩ : ∃ V, V = w3.alloc (.cells #[.int .i64 2, .int .i64 1, .int .i64 3, .slice B 4 d] 24) := ⟨_, rfl⟩
  rw [← eV] at hbk hba ⊢
  obtain ⟨b3, eb3⟩ : ∃ b, b = w3.heap.size := ⟨_, rfl⟩
  rw [← eb3] at hbk ⊢
  have HB := Lib.hid ((HB.out.trans (HB3.out.mono HB.out.size)).trans (hba.mono (Nat.le_trans HB.out.size HB3.out.size)))
  have HR := Lib.hid ((HR.out.below HB3.out).below hba)
  have HK := Lib.hid ((HK.out.below HB3.out).below hba)
  have HX := Lib.hid (show SysX V2 B d from SysX.below HSY.out hba)
  have HY := Lib.hid hbk
  clear d0 d1 hbk hba eV eb3 HLO HSY HB3
  have d0 := HY.out.cell (k := 0) rfl
  have d1 := HY.out.cell (k := 1) rfl
  have d2 := HY.out.cell (k := 2) rfl
  have d3 := HY.out.cell (k := 3) rfl
  go_upto_region 8 with (go_at_call 21; refine (ex_depth1 HX.out).mono ?_; rintro e w4 ⟨rfl, hb⟩; have HB := Lib.hid (below_trans HB.out hb); have HR := Lib.hid (HR.out.below hb); have HK := Lib.hid (HK.out.below hb); have HX := Lib.hid (HX.out.below hb); have HY := Lib.hid (HY.out.below hb); clear hb d0 d1 d2 d3; have d0 := HY.out.cell (k := 0) rfl; have d1 := HY.out.cell (k := 1) rfl; have d2 := HY.out.cell (k := 2) rfl; have d3 := HY.out.cell (k := 3) rfl)
  go_upto_region 9 with (go_at_call 21; refine (ex_depth3 HX.out).mono ?_; rintro e w5 ⟨rfl, hb⟩; have HB := Lib.hid (below_trans HB.out hb); have HR := Lib.hid (HR.out.below hb); have HK := Lib.hid (HK.out.below hb); have HX := Lib.hid (HX.out.below hb); have HY := Lib.hid (HY.out.below hb); clear hb d0 d1 d2 d3; have d0 := HY.out.cell (k := 0) rfl; have d1 := HY.out.cell (k := 1) rfl; have d2 := HY.out.cell (k := 2) rfl; have d3 := HY.out.cell (k := 3) rfl)
  go_upto_region 10 with (go_at_call 14; refine (ex_component HX.out).mono ?_; rintro e w6 ⟨Dc, cc, rfl, hpt, hb⟩; have HPT := Lib.hid hpt; clear hpt; have HB := Lib.hid (below_trans HB.out hb); have HR := Lib.hid (HR.out.below hb); have HK := Lib.hid (HK.out.below hb); have HX := Lib.hid (HX.out.below hb); have HY := Lib.hid (HY.out.below hb); clear hb d0 d1 d2 d3; have d0 := HY.out.cell (k := 0) rfl; have d1 := HY.out.cell (k := 1) rfl; have d2 := HY.out.cell (k := 2) rfl; have d3 := HY.out.cell (k := 3) rfl)
  go_upto_region 11 with (go_at_call 18; refine (ex_delivered HX.out).mono ?_; rintro e w7 ⟨rfl, hb⟩; have HPT := Lib.hid (HPT.out.below hb); have HB := Lib.hid (below_trans HB.out hb); have HR := Lib.hid (HR.out.below hb); have HK := Lib.hid (HK.out.below hb); have HX := Lib.hid (HX.out.below hb); have HY := Lib.hid (HY.out.below hb); clear hb d0 d1 d2 d3; have d0 := HY.out.cell (k := 0) rfl; have d1 := HY.out.cell (k := 1) rfl; have d2 := HY.out.cell (k := 2) rfl; have d3 := HY.out.cell (k := 3) rfl)
  go_upto_region 12 with (fail)
  have hbk := Blk.new w7 #[.int .i64 1, .int .i64 2, .int .i64 2, .int .i64 2, .int .i64 3, .int .i64 2, .int .i64 0, .int .i64 2] 26
  have hba := below_alloc w7 (.cells #[.int .i64 1, .int .i64 2, .int .i64 2, .int .i64 2, .int .i64 3, .int .i64 2, .int .i64 0, .int .i64 2] 26)
  obtain ⟨V3, eV⟩ : ∃ V, V = w7.alloc (.cells #[.int .i64 1, .int .i64 2, .int .i64 2, .int .i64 2, .int .i64 3, .int .i64 2, .int .i64 0, .int .i64 2] 26) := ⟨_, rfl⟩
  rw [← eV] at hbk hba ⊢
  obtain ⟨bP, ebP⟩ : ∃ b, b = w7.heap.size := ⟨_, rfl⟩
  rw [← ebP] at hbk ⊢
  have HB := Lib.hid (below_trans HB.out hba)
  have HR := Lib.hid (HR.out.below hba)
  have HK := Lib.hid (HK.out.below hba)
  have HX := Lib.hid (HX.out.below hba)
  have HY := Lib.hid (HY.out.below hba)
  have HPT := Lib.hid (HPT.out.below hba)
  have HP := Lib.hid hbk
  clear hbk hba eV ebP d0 d1 d2 d3
  have c0 := HK.out.cell (k := 0) rfl
  have c1 := HK.out.cell (k := 1) rfl
  have p0 := HP.out.cell (k := 0) rfl
  have p1 := HP.out.cell (k := 1) rfl
  have HSO1 := Lib.hid (show ∀ x : World, Below V3.heap.size V3 x → Below V3.heap.size V3 x ∧ x.cell? ⟨b1, 0, none⟩ = some (.int .i64 2) ∧ x.cell? ⟨b1, 1, none⟩ = some (.slice A 2 c) ∧ x.cell? ⟨bP, 0, none⟩ = some (.int .i64 1) ∧ x.cell? ⟨bP, 1, none⟩ = some (.int .i64 2) from fun x h => ⟨h, (HK.out.below h).cell (k := 0) rfl, (HK.out.below h).cell (k := 1) rfl, (HP.out.below h).cell (k := 0) rfl, (HP.out.below h).cell (k := 1) rfl⟩)
  have HC1 := Lib.hid (show ∀ x : World, Below V3.heap.size V3 x → _ from fun x h => ex_chn (c := c) (HR.out.below h))
  have hb0 : Below V3.heap.size V3 V3 := Below.refl _ V3
  go_region_held3 (fun x => Below V3.heap.size V3 x ∧ x.cell? ⟨b1, 0, none⟩ = some (.int .i64 2) ∧ x.cell? ⟨b1, 1, none⟩ = some (.slice A 2 c) ∧ x.cell? ⟨bP, 0, none⟩ = some (.int .i64 1) ∧ x.cell? ⟨bP, 1, none⟩ = some (.int .i64 2)) (first | exact HSO1.out _ (by assumption) | exact HSO1.out _ (below_drew hb0) | exact HSO1.out _ (below_trans (And.left (by assumption)) (by assumption)))
    ((go_at_call 25; refine (HC1.out _ (And.left (by assumption))).mono ?_; rintro e w9 ⟨Dn, cn, rfl, hb1⟩; have HB9 := below_trans (And.left (by assumption)) hb1; clear hb1))
  have HB := Lib.hid (below_trans HB.out HB9)
  have HR := Lib.hid (HR.out.below HB9)
  have HX := Lib.hid (HX.out.below HB9)
  have HK := Lib.hid (HK.out.below HB9)
  have HY := Lib.hid (HY.out.below HB9)
  have HPT := Lib.hid (HPT.out.below HB9)
  have HP := Lib.hid (HP.out.below HB9)
  clear HSO1 HC1 hb0 HB9 c0 c1 p0 p1
  rename_i hz; clear hz
  go_upto_region 15 with (fail)
  have HSO1 := Lib.hid (show ∀ x : World, Below w9.heap.size w9 x → Below w9.heap.size w9 x ∧ x.cell? ⟨b3, 0, none⟩ = some (.int .i64 2) ∧ x.cell? ⟨b3, 1, none⟩ = some (.int .i64 1) ∧ x.cell? ⟨b3, 2, none⟩ = some (.int .i64 3) ∧ x.cell? ⟨b3, 3, none⟩ = some (.slice B 4 d) ∧ x.cell? ⟨bP, 0, none⟩ = some (.int .i64 1) ∧ x.cell? ⟨bP, 1, none⟩ = some (.int .i64 2) from fun x h => ⟨h, (HY.out.below h).cell (k := 0) rfl, (HY.out.below h).cell (k := 1) rfl, (HY.out.below h).cell (k := 2) rfl, (HY.out.below h).cell (k := 3) rfl, (HP.out.below h).cell (k := 0) rfl, (HP.out.below h).cell (k := 1) rfl⟩)
  have HC1 := Lib.hid (show ∀ x : World, Below w9.heap.size w9 x → _ from fun x h => ex_common (HX.out.below h))
  have hb0 : Below w9.heap.size w9 w9 := Below.refl _ w9
  go_region_held3 (fun x => Below w9.heap.size w9 x ∧ x.cell? ⟨b3, 0, none⟩ = some (.int .i64 2) ∧ x.cell? ⟨b3, 1, none⟩ = some (.int .i64 1) ∧ x.cell? ⟨b3, 2, none⟩ = some (.int .i64 3) ∧ x.cell? ⟨b3, 3, none⟩ = some (.slice B 4 d) ∧ x.cell? ⟨bP, 0, none⟩ = some (.int .i64 1) ∧ x.cell? ⟨bP, 1, none⟩ = some (.int .i64 2)) (first | exact HSO1.out _ (by assumption) | exact HSO1.out _ (below_drew hb0) | exact HSO1.out _ (below_trans (And.left (by assumption)) (by assumption)))
    ((go_at_call 16; refine (HC1.out _ (And.left (by assumption))).mono ?_; rintro e w10 ⟨rfl, hb1⟩; have HB10 := below_trans (And.left (by assumption)) hb1; clear hb1))
  have HB := Lib.hid (below_trans HB.out HB10)
  have HR := Lib.hid (HR.out.below HB10)
  have HK := Lib.hid (HK.out.below HB10)
  have HPT := Lib.hid (HPT.out.below HB10)
  have HP := Lib.hid (HP.out.below HB10)
  clear HSO1 HC1 hb0 HB10 HX HY
  rename_i hz; clear hz
  go_upto_region 16 with (fail)
  have HSO1 := Lib.hid (show ∀ x : World, Below w10.heap.size w10 x → Below w10.heap.size w10 x ∧ x.cell? ⟨b1, 0, none⟩ = some (.int .i64 2) ∧ x.cell? ⟨b1, 1, none⟩ = some (.slice A 2 c) from fun x h => ⟨h, (HK.out.below h).cell (k := 0) rfl, (HK.out.below h).cell (k := 1) rfl⟩)
  have hba := below_drew (below_alloc w10 (.cells #[.int .i64 0, .int .i64 2, .int .i64 1, .int .i64 2, .int .i64 2, .int .i64 2, .int .i64 3, .int .i64 2] 26))
  have HBA := Lib.hid hba
  have HC1 := Lib.hid (show Calls Try.prog 20 #[.slice Dc 4 cc, .slice (some ⟨w10.heap.size, 0, none⟩) 4 4] (w10.alloc (.cells #[.int .i64 0, .int .i64 2, .int .i64 1, .int .i64 2, .int .i64 2, .int .i64 2, .int .i64 3, .int .i64 2] 26)).drew fun e w' => e = .returned (.bool true) ∧ Below w10.heap.size w10 w' from (ex_same (HPT.out.below hba) (Blk.new w10 _ _)).mono (fun e w' h' => ⟨h'.1, below_trans hba h'.2⟩))
  clear hba
  have HC2 := Lib.hid (show ∀ (x : World) (m d : Nat) (r : Int), Below w10.heap.size w10 x → ((m = 4 ∧ r = 0) ∨ (m = 3 ∧ r = 13)) → Calls Try.prog 23 #[.agg #[.int .i64 2, .slice A 2 c], .slice (some ⟨bP, 0, none⟩) m d] x fun e w' => e = .returned (.int .i64 r) ∧ Below x.heap.size x w' from fun x m d r h hm => by
    rcases hm with ⟨rfl, rfl⟩ | ⟨rfl, rfl⟩
    · have := ex_verify (c := c) (d := d) (m := 4) (HR.out.below h) (HP.out.below h) (by decide)
      rw [ex_ver4] at this
      exact this
    · have := ex_verify (c := c) (d := d) (m := 3) (HR.out.below h) (HP.out.below h) (by decide)
      rw [ex_ver3] at this
      exact this)
  have hb0 : Below w10.heap.size w10 w10 := Below.refl _ w10
  go_region_held3 (fun x => Below w10.heap.size w10 x ∧ x.cell? ⟨b1, 0, none⟩ = some (.int .i64 2) ∧ x.cell? ⟨b1, 1, none⟩ = some (.slice A 2 c)) (first | exact HSO1.out _ HBA.out | exact HSO1.out _ (by assumption) | exact HSO1.out _ (below_drew hb0) | exact HSO1.out _ (below_trans (And.left (by assumption)) (by assumption)))
    (first
      | (go_at_call 20; refine HC1.out.mono ?_; rintro e w11 ⟨rfl, hb1⟩)
      | (go_at_call 23; refine (HC2.out _ _ _ _ (And.left (by assumption)) (by first | exact Or.inl ⟨rfl, rfl⟩ | exact Or.inr ⟨rfl, rfl⟩)).mono ?_; rintro e w12 ⟨rfl, hb1⟩; have HB12 := below_trans (And.left (by assumption)) hb1; clear hb1)
      | fail)
  have HB := Lib.hid (below_trans HB.out HB12)
  clear HSO1 HC1 HC2 HBA hb0 hb1 HB12
  rename_i hz; clear hz
  go_wp2_with (fail)
  exact bodyPost_ret (v := .bool true) (by simp [results, Try.results13, go_sem]) rfl ⟨rfl, HB.out⟩
end Go.Proofs.Ytahaimecchdfeaa
