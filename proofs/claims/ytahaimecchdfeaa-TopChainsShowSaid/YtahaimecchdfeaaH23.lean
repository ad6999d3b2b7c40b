/-
  Texts of this claim, one after the other: what each proves is said at its head. No condition beyond those that its theorems name.
-/
import Derived.Test.YtahaimecchdfeaaProg
import Derived.Laws.EntriesVeiled
import Derived.Test.YtahaimecchdfeaaH01
import Derived.Test.YtahaimecchdfeaaH06
import Derived.Test.YtahaimecchdfeaaH09
import Derived.Test.YtahaimecchdfeaaH18

/-
  Walks of layer 54: Lossy of the program.
-/
namespace Go.Proofs.Ytahaimecchdfeaa
open Go.RowKit

/-- A system. -/
structure SysD where
  a : Int
  f : Int
  l : Int
  ps : List RunD
def SysD.owned (d : SysD) (w : World) (base : Nat) (x : Value) : Prop := ∃ vR, x = .agg #[.int .i64 d.a, .int .i64 d.f, .int .i64 d.l, vR] ∧ RunsO w base vR d.ps
def SysD.none : SysD := ⟨0, 0, 0, []⟩
theorem SysD.none_owned (w : World) (base : Nat) : SysD.none.owned w base (.agg #[.int .i64 0, .int .i64 0, .int .i64 0, .slice .none 0 0]) := ⟨_, rfl, RunsO.nil _ _⟩
theorem RunsO.mono {w : World} {base base' : Nat} {v : Value} {ps : List RunD} (h : RunsO w base v ps) (hb : base' ≤ base) : RunsO w base' v ps := by
  obtain ⟨rows, ho, hr⟩ := h
  exact ⟨rows, own_mono' ho hb, fun i d hi => let ⟨x, y, e1, e2, h⟩ := hr i d hi; ⟨x, y, e1, e2, RunO.mono h hb⟩⟩
/-- The runs of the lossy channel, at most 65 of them. -/
def losRs (snd : Int → Int → Int) (T : Nat) : List (Int × List Int) := genT snd 1 T [] (genT snd 0 T [] [])
def losE (R : Int) (n : Nat) (fa fh fm : Nat → Int) : Nat := if exErr R n fa fh fm = 0 then (if 64 < (losRs (sndV n fa fh fm) R.toNat).length then 8 else 0) else exErr R n fa fh fm
def losD (R : Int) (n : Nat) (fa fh fm : Nat → Int) : SysD := if losE R n fa fh fm = 0 then ⟨2, 1, R + 1, (losRs (sndV n fa fh fm) R.toNat).map (mkR (sndV n fa fh fm))⟩ else SysD.none
/-- What a function leaves that returns a system and an error. -/
def SysPost (w : World) (D : SysD) (E : Nat) (e : Ending) (w' : World) : Prop := ∃ x, e = .returned (.tuple #[x, .int .i64 E]) ∧ D.owned w' w.heap.size x ∧ Below w.heap.size w w'
theorem exErr_R {R : Int} {n : Nat} {fa fh fm : Nat → Int} (h : exErr R n fa fh fm = 0) : 0 ≤ R ∧ R ≤ 4 := by
  unfold exErr at h
  by_cases h1 : 0 ≤ R ∧ R ≤ 4
  · exact h1
  · rw [if_neg h1] at h; cases h
set_option maxHeartbeats 2000000 in
theorem Lossy_any (R : Int) (A : Option Addr) (n c : Nat) (fa fh fm : Nat → Int) (w : World) (hx : RuleS w A n fa fh fm) (hn : n ≤ 9223372036854775807) :
    Calls Try.prog 27 #[.agg #[.int .i64 R, .slice A n c]] w (SysPost w (losD R n fa fh fm) (losE R n fa fh fm)) := by
  have HX := Lib.hid hx
  have hC := fun w (h : RuleS w A n fa fh fm) => Check_any R A n c fa fh fm w h hn
  by_cases hE : exErr R n fa fh fm = 0
  case neg =>
    have hl : losE R n fa fh fm = exErr R n fa fh fm := if_neg hE
    have hd : losD R n fa fh fm = SysD.none := by unfold losD; rw [hl, if_neg hE]
    rw [hl, hd]
    obtain ⟨E, eE⟩ : ∃ E, E = exErr R n fa fh fm := ⟨_, rfl⟩
    rw [← eE] at hC hE ⊢
    have HC := Lib.hid hC
    have t1 : ((E : Int) != 0) = true := by rw [bne_iff_ne]; omega
    clear hC hx hl hd eE
    go_enter Try.func27, Try.ntmps27
    go_upto_region 1 with (fail)
    obtain ⟨W, hW⟩ : ∃ W, W = (w.alloc (.cells #[.int .i64 R, .slice A n c] 43)).alloc (.cells #[.int .i64 0, .int .i64 0, .int .i64 0, .slice none 0 0] 24) := ⟨_, rfl⟩
    rw [← hW]
    obtain ⟨hk0, hk1, hB⟩ := two_boxes4 w _ _ _ _ W hW
    have x0 := hk0.cell (k := 0) rfl
    have x1 := hk0.cell (k := 1) rfl
    have HXW := Lib.hid (HX.out.below hB)
    have HB := Lib.hid hB
    have HK1 := Lib.hid hk1
    clear hW hk0 hk1 hB HX
    go_upto_region 2 with (go_at_call 64; refine (HC.out _ (by exact HXW.out)).mono ?_; rintro e w1 ⟨rfl, hb1⟩; have HB1 := Lib.hid hb1; clear hb1)
    have hB2 := HB.out.trans (HB1.out.mono HB.out.size)
    obtain ⟨⟨c0, f0, c1, f1, c2, f2, c3, f3⟩, hk2⟩ := (HK1.out.below HB1.out).put4 (.int .i64 0) (.int .i64 0) (.int .i64 0) (.slice none 0 0)
    have q0 := hk2.cell (k := 0) rfl
    have q1 := hk2.cell (k := 1) rfl
    have q2 := hk2.cell (k := 2) rfl
    have q3 := hk2.cell (k := 3) rfl
    have HB2 := Lib.hid hB2
    clear hB2 hk2 HB1 HB HK1 HXW x0 x1
    go_wp2_with fail
    exact bodyPost_ret (v := .tuple #[.agg #[.int .i64 0, .int .i64 0, .int .i64 0, .slice none 0 0], .int .i64 E]) (by simp [results, Try.results27, go_sem, q0, q1, q2, q3]) rfl ⟨_, rfl, SysD.none_owned _ _, below_put4 HB2.out (by omega) _ _ _ _⟩
  case pos =>
    obtain ⟨hR0, hR4⟩ := exErr_R hE
    obtain ⟨T, rfl⟩ : ∃ T : Nat, R = T := ⟨R.toNat, by omega⟩
    rw [hE] at hC
    have HC := Lib.hid hC
    have HE := Lib.hid hE
    clear hC hE hx
    go_enter Try.func27, Try.ntmps27
    go_upto_region 1 with (fail)
    obtain ⟨W, hW⟩ : ∃ W, W = (w.alloc (.cells #[.int .i64 T, .slice A n c] 43)).alloc (.cells #[.int .i64 0, .int .i64 0, .int .i64 0, .slice none 0 0] 24) := ⟨_, rfl⟩
    rw [← hW]
    obtain ⟨hk0, hk1, hB⟩ := two_boxes4 w _ _ _ _ W hW
    have x0 := hk0.cell (k := 0) rfl
    have x1 := hk0.cell (k := 1) rfl
    have HXW := Lib.hid (HX.out.below hB)
    have HB := Lib.hid hB
    have HK0 := Lib.hid hk0
    have HK1 := Lib.hid hk1
    clear hW hk0 hk1 hB
    go_upto_region 4 with (go_at_call 64; refine (HC.out _ (by exact HXW.out)).mono ?_; rintro e w1 ⟨rfl, hb1⟩; have HB1 := Lib.hid hb1; clear hb1)
    have HB2 := Lib.hid (HB.out.trans (HB1.out.mono HB.out.size))
    have HK0 := Lib.hid (HK0.out.below HB1.out)
    have HK1 := Lib.hid (HK1.out.below HB1.out)
    have x0 := HK0.out.cell (k := 0) rfl
    clear HB HB1 HXW
    go_upto_region 6 with (fail)
    obtain ⟨V, hV⟩ : ∃ V, V = (w1.alloc (.cells #[.int .i64 2, .int .i64 1, .int .i64 ((T : Int) + 1), .slice none 0 0] 24)).alloc (.cells #[.nilFunc] 100) := ⟨_, rfl⟩
    rw [← hV]
    obtain ⟨hS, hF, hBV⟩ := two_boxes4 w1 _ _ _ _ V hV
    have hK0 := HK0.out.below hBV
    have c0 := hF.cell (k := 0) rfl
    have f0 := hF.frozen (k := 0)
    obtain ⟨fv, efv⟩ : ∃ fv, fv = Value.func (.func 65) #[] #[.pointer (some ⟨w1.heap.size, 0, none⟩), .pointer (some ⟨w.heap.size, 0, none⟩), .pointer (some ⟨w1.heap.size + 1, 0, none⟩)] := ⟨_, rfl⟩
    have hI0 : LosI w1 (V.setCell ⟨w1.heap.size + 1, 0, none⟩ fv) w1.heap.size w.heap.size (w1.heap.size + 1) T (.slice A n c) fv (.slice none 0 0) (([] : List (Int × List Int)).map (mkR (sndV n fa fh fm))) :=
      ⟨hBV.setCell (p := ⟨w1.heap.size + 1, 0, none⟩) (by show w1.heap.size ≤ w1.heap.size + 1; omega) _, hS.set_ne (hS.ne hF (by decide)) _ _, hK0.set_ne (hK0.ne hF (by decide)) _ _, hF.set 0 fv, Nat.le_refl _, RunsO.nil _ _⟩
    have HL := Lib.hid (list_any w1 w1.heap.size w.heap.size (w1.heap.size + 1) T A n c fa fh fm fv 0 (HX.out.below HB2.out) hn (by omega) (by omega) efv T [] (.slice none 0 0) [] _ _ (by simp) (fun k hk => absurd hk (Nat.not_lt_zero _)) (Nat.zero_le _) (World.ownsRow_nil _ _ _ _) hI0)
    have HL2 := Lib.hid (fun W vR rs (h1 : rs.length ≤ 65) (h2 : LosI w1 W w1.heap.size w.heap.size (w1.heap.size + 1) T (.slice A n c) fv vR (rs.map (mkR (sndV n fa fh fm)))) => list_any w1 w1.heap.size w.heap.size (w1.heap.size + 1) T A n c fa fh fm fv 1 (HX.out.below HB2.out) hn (by omega) (by omega) efv T [] (.slice none 0 0) rs W vR (by simp) (fun k hk => absurd hk (Nat.not_lt_zero _)) h1 (World.ownsRow_nil _ _ _ _) h2)
    have z0 := hI0.hF.cell (k := 0) rfl
    clear hS hF hBV hV x0 hI0 hK0
    go_upto_region 7 with (fail)
    rw [← efv]
    generalize V.setCell ⟨w1.heap.size + 1, 0, none⟩ fv = V0 at HL z0 ⊢
    subst efv
    clear c0 f0
    go_upto_region 8 with (go_at_call 65; refine HL.out.mono ?_; rintro e w2 ⟨rfl, ⟨vR, hI⟩, -⟩; have HI := Lib.hid hI; clear hI)
    have z0 := HI.out.hF.cell (k := 0) rfl
    have HL2 := Lib.hid (HL2.out w2 vR _ (genT_le _ _ _ _ _) HI.out)
    clear HI HL
    go_upto_region 9 with (go_at_call 65; refine HL2.out.mono ?_; rintro e w3 ⟨rfl, ⟨vR3, hI⟩, -⟩; have HI := Lib.hid hI; clear hI)
    clear HL2 z0
    obtain ⟨ps, eps⟩ : ∃ ps, ps = losRs (sndV n fa fh fm) T := ⟨_, rfl⟩
    have hI := HI.out
    rw [show genT (sndV n fa fh fm) 1 T [] (genT (sndV n fa fh fm) 0 T [] []) = ps from eps.symm] at hI
    have hle : ps.length ≤ 65 := by rw [eps]; exact genT_le _ _ _ _ _
    have hEd : losE T n fa fh fm = if 64 < ps.length then 8 else 0 := by
      unfold losE; rw [if_pos HE.out, Int.toNat_natCast, ← eps]
    have hDd : losD T n fa fh fm = if 64 < ps.length then SysD.none else ⟨2, 1, (T : Int) + 1, ps.map (mkR (sndV n fa fh fm))⟩ := by
      unfold losD
      rw [hEd]
      by_cases h : 64 < ps.length
      · rw [if_pos h, if_pos h]; rfl
      · rw [if_neg h, if_neg h, if_pos rfl, Int.toNat_natCast, ← eps]
    have HED := Lib.hid hEd
    have HDD := Lib.hid hDd
    obtain ⟨rows, ho, -⟩ := hI.runs
    rw [List.length_map] at ho
    obtain ⟨AR, cR, rfl, -⟩ := own_form' ho
    have hk1 := HK1.out.below hI.below
    have d0 := hI.hS.cell (k := 0) rfl
    have d1 := hI.hS.cell (k := 1) rfl
    have d2 := hI.hS.cell (k := 2) rfl
    have d3 := hI.hS.cell (k := 3) rfl
    have HI3 := Lib.hid hI
    have HLE := Lib.hid hle
    clear ho eps hEd hDd hI hle HI HX HE HC hR0 hR4
    by_cases h64 : 64 < ps.length
    · have t1 : decide ((64 : Int) < (ps.length : Int)) = true := decide_eq_true (by omega)
      have t1' : decide (64 < ps.length) = true := decide_eq_true h64
      rw [if_pos h64] at HED HDD
      obtain ⟨⟨c0, f0, c1, f1, c2, f2, c3, f3⟩, hk2⟩ := hk1.put4 (.int .i64 0) (.int .i64 0) (.int .i64 0) (.slice none 0 0)
      have q0 := hk2.cell (k := 0) rfl
      have q1 := hk2.cell (k := 1) rfl
      have q2 := hk2.cell (k := 2) rfl
      have q3 := hk2.cell (k := 3) rfl
      have HB3 := Lib.hid (HB2.out.trans (HI3.out.below.mono HB2.out.size))
      clear hk1 hk2 h64 HI3 HB2 HK0 HK1
      go_wp2_with fail
      exact bodyPost_ret (v := .tuple #[.agg #[.int .i64 0, .int .i64 0, .int .i64 0, .slice none 0 0], .int .i64 8]) (by simp [results, Try.results27, go_sem, q0, q1, q2, q3]) rfl (show SysPost w (losD T n fa fh fm) (losE T n fa fh fm) _ _ from by rw [HDD.out, HED.out]; exact ⟨_, rfl, SysD.none_owned _ _, below_put4 HB3.out (by omega) _ _ _ _⟩)
    · have t1 : decide ((64 : Int) < (ps.length : Int)) = false := decide_eq_false (by omega)
      have t1' : decide (64 < ps.length) = false := decide_eq_false h64
      rw [if_neg h64] at HED HDD
      obtain ⟨⟨c0, f0, c1, f1, c2, f2, c3, f3⟩, hk2⟩ := hk1.put4 (.int .i64 2) (.int .i64 1) (.int .i64 ((T : Int) + 1)) (.slice AR ps.length cR)
      have q0 := hk2.cell (k := 0) rfl
      have q1 := hk2.cell (k := 1) rfl
      have q2 := hk2.cell (k := 2) rfl
      have q3 := hk2.cell (k := 3) rfl
      have HB3 := Lib.hid (HB2.out.trans (HI3.out.below.mono HB2.out.size))
      have HRU := Lib.hid ((HI3.out.runs.keeps (Keeps.put4 hk1 (by decide) (.int .i64 2) (.int .i64 1) (.int .i64 ((T : Int) + 1)) (.slice AR ps.length cR)) (Keeps.put4 hk1 (by decide) _ _ _ _) (Keeps.put4 hk1 (by decide) _ _ _ _) (Keeps.put4 hk1 (by decide) _ _ _ _)).mono HB2.out.size)
      clear hk1 hk2 h64 HI3 HB2 HK0 HK1
      go_wp2_with fail
      exact bodyPost_ret (v := .tuple #[.agg #[.int .i64 2, .int .i64 1, .int .i64 ((T : Int) + 1), .slice AR ps.length cR], .int .i64 0]) (by simp [results, Try.results27, go_sem, q0, q1, q2, q3]) rfl (show SysPost w (losD T n fa fh fm) (losE T n fa fh fm) _ _ from by rw [HDD.out, HED.out]; exact ⟨_, rfl, ⟨_, rfl, HRU.out⟩, below_put4 HB3.out (by omega) _ _ _ _⟩)
end Go.Proofs.Ytahaimecchdfeaa
