/-
  Texts of this claim, one after the other: what each proves is said at its head. No condition beyond those that its theorems name.
-/
import Derived.Test.YtahaimecchdfeaaProg
import Derived.Deep.DeepCutAuto
import Derived.Deep.RegionHeld3
import Derived.Test.YtahaimecchdfeaaG02
import Derived.Test.YtahaimecchdfeaaG06
import Derived.Test.YtahaimecchdfeaaG24
import Derived.Test.YtahaimecchdfeaaG27
import Derived.Test.YtahaimecchdfeaaG28
import Derived.Test.YtahaimecchdfeaaG44

/-
  Walk: the law AttackChains.
-/
namespace Go.Proofs.Ytahaimecchdfeaa
open Go.RowKit

theorem crS_of {w : World} {A : Option Addr} {n : Nat} {X Y : Nat → Int} (h : PtS w A n X Y) (hb : ∀ k, k < n → (0 ≤ X k ∧ X k ≤ 65536) ∧ 0 ≤ Y k ∧ Y k ≤ 65536) : CrS w A n X Y := fun k hk => by
  obtain ⟨b, off, e, h1, h2⟩ := h k hk
  have := hb k hk
  exact ⟨b, off, e, h1, h2, ⟨by omega, by omega⟩, ⟨by omega, by omega⟩⟩
/-- What the two chains have in common. -/
theorem chains_join {W1 W2 : World} {B1 B2 : Nat} {R : Int} {n : Nat} {fa fh fm : Nat → Int} {r t : Int} {v1 v2 : Value} {E1 E2 : Int} (hw : Below W1.heap.size W1 W2)
    (h1 : ∃ ps, ps = losRs (sndV n fa fh fm) R.toNat ∧
    ((losE R n fa fh fm ≠ 0 ∧ v1 = .slice none 0 0 ∧ E1 = (losE R n fa fh fm : Nat)) ∨
     (losE R n fa fh fm = 0 ∧ ¬ inP ps.length (R + 1).toNat r t ∧ v1 = .slice none 0 0 ∧ E1 = 2) ∨
     (losE R n fa fh fm = 0 ∧ inP ps.length (R + 1).toNat r t ∧
       ((∃ l, E1 = 0 ∧ ChOk (akS 2 (R + 1) ps.length (psL (sndV n fa fh fm) ps)) (ps.length * (R + 1).toNat) (posP (R + 1) r t) (facK (lF ps) ps.length (R + 1) 0) l ∧ PnO W1 B1 v1 (l.map (ptG (ptL ps.length (R + 1).toNat)))) ∨
        (E1 = 6 ∧ v1 = .slice none 0 0 ∧ ∀ m k, walkN (akS 2 (R + 1) ps.length (psL (sndV n fa fh fm) ps)) (posP (R + 1) r t) m k → facK (lF ps) ps.length (R + 1) 0 k = facK (lF ps) ps.length (R + 1) 0 (posP (R + 1) r t))))))
    (h2 : ∃ ps, ps = losRs (sndV n fa fh fm) R.toNat ∧
    ((losE R n fa fh fm ≠ 0 ∧ v2 = .slice none 0 0 ∧ E2 = (losE R n fa fh fm : Nat)) ∨
     (losE R n fa fh fm = 0 ∧ ¬ inP ps.length (R + 1).toNat r t ∧ v2 = .slice none 0 0 ∧ E2 = 2) ∨
     (losE R n fa fh fm = 0 ∧ inP ps.length (R + 1).toNat r t ∧ E2 = 0 ∧
       ((∃ l, ChOk (akS 2 (R + 1) ps.length (psL (sndV n fa fh fm) ps)) (ps.length * (R + 1).toNat) (posP (R + 1) r t) (facK (lF ps) ps.length (R + 1) 0) l ∧ PnO W2 B2 v2 (l.map (ptG (ptL ps.length (R + 1).toNat))) ∧ l.length ≤ 1024) ∨
        (v2 = .slice none 0 0 ∧ ∀ m k, walkN (akS 2 (R + 1) ps.length (psL (sndV n fa fh fm) ps)) (posP (R + 1) r t) m k → facK (lF ps) ps.length (R + 1) 0 k = facK (lF ps) ps.length (R + 1) 0 (posP (R + 1) r t)))))) :
    (v1 = .slice none 0 0 ∧ v2 = .slice none 0 0 ∧ E1 = E2 ∧ E2 ≠ 0) ∨
    (E1 = 0 ∧ E2 = 0 ∧ ∃ (N : Nat) (A1 A2 : Option Addr) (c1 c2 : Nat) (X Y : Nat → Int), v1 = .slice A1 N c1 ∧ v2 = .slice A2 N c2 ∧ CrS W2 A1 N X Y ∧ 0 < N ∧ N ≤ 1024 ∧ X 0 = r ∧ Y 0 = t ∧ verV R n fa fh fm N X Y = 0) := by
  obtain ⟨ps, rfl, h1⟩ := h1
  obtain ⟨ps, rfl, h2⟩ := h2
  rcases h1 with ⟨a1, a2, a3⟩ | ⟨a1, a2, a3, a4⟩ | ⟨a1, a2, h1⟩
  · rcases h2 with ⟨b1, b2, b3⟩ | ⟨b1, -⟩ | ⟨b1, -⟩
    · exact .inl ⟨a2, b2, a3.trans b3.symm, by rw [b3]; omega⟩
    · exact absurd b1 a1
    · exact absurd b1 a1
  · rcases h2 with ⟨b1, -⟩ | ⟨-, -, b3, b4⟩ | ⟨-, b2, -⟩
    · exact absurd a1 b1
    · exact .inl ⟨a3, b3, a4.trans b4.symm, by rw [b4]; decide⟩
    · exact absurd b2 a2
  · obtain ⟨m, k, hm, hk⟩ := los_way a1 a2
    rcases h1 with ⟨l, e1, hl, hp⟩ | ⟨-, -, hno⟩
    case inr => exact absurd (hno m k hm) hk
    rcases h2 with ⟨b1, -⟩ | ⟨-, b2, -⟩ | ⟨-, -, e2, h2⟩
    · exact absurd a1 b1
    · exact absurd a2 b2
    rcases h2 with ⟨l', hl', hp', hlen⟩ | ⟨-, hno⟩
    case inr => exact absurd (hno m k hm) hk
    refine .inr ⟨e1, e2, l.length, ?_⟩
    have hs := hl.same hl'
    obtain ⟨A1, c1, s1⟩ := hp.shape
    obtain ⟨A2, c2, s2⟩ := hp'.shape
    rw [List.length_map] at s1 s2
    rw [← hs] at s2
    have hv := chain_ok a1 hl
    have hpt : ∀ k, k < l.length → ∃ q r' t' : Nat, l[k]? = some q ∧ (l.map (ptG (ptL (losRs (sndV n fa fh fm) R.toNat).length (R + 1).toNat))).getD k (0, 0) = (r', t') ∧ r' < (losRs (sndV n fa fh fm) R.toNat).length ∧ t' < (R + 1).toNat ∧ q = r' * (R + 1).toNat + t' := fun k hk => by
      have hq := List.getElem?_eq_getElem hk
      have hlt := hl.lt _ (List.getElem_mem hk)
      obtain ⟨r', t', e, h1, h2, h3⟩ := ptG_at hlt
      exact ⟨l[k], r', t', hq, by rw [List.getD_eq_getElem?_getD, List.getElem?_map, hq]; exact e, h1, h2, h3⟩
    have h64 : (losRs (sndV n fa fh fm) R.toNat).length ≤ 64 ∧ (R + 1).toNat ≤ 5 := by
      have hX : exErr R n fa fh fm = 0 := by
        have hE := a1
        unfold losE at hE
        by_cases h1 : exErr R n fa fh fm = 0
        · exact h1
        · rw [if_neg h1] at hE; exact hE
      have hR := exErr_R hX
      have hE := a1
      unfold losE at hE
      rw [if_pos hX] at hE
      refine ⟨?_, by omega⟩
      by_cases h1 : 64 < (losRs (sndV n fa fh fm) R.toNat).length
      · rw [if_pos h1] at hE; cases hE
      · omega
    subst s1
    have hpp := (hp.below hw).pts
    rw [List.length_map] at hpp
    refine ⟨A1, A2, c1, c2, _, _, rfl, s2, crS_of hpp fun k hk => ?_, hl.pos, by omega, ?_, ?_, hv⟩
    · obtain ⟨q, r', t', -, e, h3, h4, -⟩ := hpt k hk
      rw [e]
      have := h64.1
      have := h64.2
      exact ⟨⟨by omega, by omega⟩, by omega, by omega⟩
    · obtain ⟨q, r', t', e0, e, h3, h4, h5⟩ := hpt 0 hl.pos
      have hh := hl.head
      rw [List.head?_eq_getElem?, e0] at hh
      have hq : q = posP (R + 1) r t := Option.some.inj hh
      rw [e]
      obtain ⟨⟨g1, g2⟩, g3, g4⟩ := a2
      have hd1 := pos_div (l := (R + 1).toNat) (r := r') (t := t') h4
      have hd2 := pos_div (l := (R + 1).toNat) (r := r.toNat) (t := t.toNat) (by omega)
      unfold posP at hq
      rw [← h5, hq, hd2] at hd1
      show (r' : Int) = r
      omega
    · obtain ⟨q, r', t', e0, e, h3, h4, h5⟩ := hpt 0 hl.pos
      have hh := hl.head
      rw [List.head?_eq_getElem?, e0] at hh
      have hq : q = posP (R + 1) r t := Option.some.inj hh
      rw [e]
      obtain ⟨⟨g1, g2⟩, g3, g4⟩ := a2
      have hd1 := pos_mod (l := (R + 1).toNat) (r := r') (t := t') h4
      have hd2 := pos_mod (l := (R + 1).toNat) (r := r.toNat) (t := t.toNat) (by omega)
      unfold posP at hq
      rw [← h5, hq, hd2] at hd1
      show (t' : Int) = t
      omega
set_option maxHeartbeats 4000000 in
theorem chains_core (R : Int) (A : Option Addr) (n c : Nat) (fa fh fm : Nat → Int) (r t : Int) (w : World) (hx : RuleS w A n fa fh fm) (hn : n ≤ 9223372036854775807) :
    Calls Try.prog 6 #[.agg #[.int .i64 R, .slice A n c], .agg #[.int .i64 r, .int .i64 t]] w fun e w' => e = .returned (.bool true) ∧ Below w.heap.size w w' := by
  obtain ⟨W, hW⟩ : ∃ W, W = (w.alloc (.cells #[.int .i64 R, .slice A n c] 43)).alloc (.cells #[.int .i64 r, .int .i64 t] 26) := ⟨_, rfl⟩
  obtain ⟨k0, k1, hB⟩ := two_boxes4 w _ _ _ _ W hW
  have HX := Lib.hid (hx.below hB)
  have HK := Lib.hid k0
  have HK1 := Lib.hid k1
  have HB := Lib.hid hB
  have d0 := k0.cell (k := 0) rfl
  have d1 := k0.cell (k := 1) rfl
  have p0 := k1.cell (k := 0) rfl
  have p1 := k1.cell (k := 1) rfl
  clear k0 k1 hB hx
  by_cases h100 : 100 < n
  · have t1 : decide (100 < n) = true := decide_eq_true h100
    have t1' : decide ((100 : Int) < (n : Int)) = true := decide_eq_true (by omega)
    clear h100
    go_enter Try.func6, Try.ntmps6
    go_upto_region 1 with (fail)
    rw [← hW]
    clear hW
    go_wp2_with (go_at_call 13; refine (awake_any _).mono ?_; rintro e w2 ⟨rfl, hst⟩; have HB := Lib.hid (below_trans HB.out hst); clear hst)
    go_ret
    exact ⟨rfl, HB.out⟩
  have t1 : decide (100 < n) = false := decide_eq_false h100
  have t1' : decide ((100 : Int) < (n : Int)) = false := decide_eq_false (by omega)
  have H1 := Lib.hid (fun (X : World) (hX : Below W.heap.size W X) => Chain_any R A n c fa fh fm r t X (HX.out.below hX) (by omega))
  have H2 := Lib.hid (fun (X : World) (hX : Below W.heap.size W X) => rChain_any R A n c fa fh fm r t X (HX.out.below hX) (by omega))
  have HV := Lib.hid (fun (X : World) (hX : Below W.heap.size W X) (B : Option Addr) (m d : Nat) (x y : Nat → Int) (hy : CrS X B m x y) (hm : m ≤ 1024) => Verify_any R A n c fa fh fm B m d x y X (HX.out.below hX) hn hy (by omega))
  unfold ChnPost at H1
  unfold RcPost at H2
  clear h100 HX
  go_enter Try.func6, Try.ntmps6
  go_upto_region 1 with (fail)
  rw [← hW]
  obtain ⟨bE, ebE⟩ : ∃ b, b = w.heap.size := ⟨_, rfl⟩
  obtain ⟨bP, ebP⟩ : ∃ b, b = w.heap.size + 1 := ⟨_, rfl⟩
  rw [← ebP, ← ebE]
  rw [← ebE] at HK d0 d1
  rw [← ebP] at HK1 p0 p1
  clear hW ebE ebP
  go_upto_region 4 with (go_at_call 25; refine (H1.out _ (Below.refl _ _)).mono ?_; rintro e w1 ⟨v1, E1, rfl, hb1, hc1⟩; have HBW := Lib.hid hb1; have HC1 := Lib.hid hc1; clear hb1 hc1)
  clear d0 d1 p0 p1 t1 t1' H1
  have d0 := (HK.out.below HBW.out).cell (k := 0) rfl
  have d1 := (HK.out.below HBW.out).cell (k := 1) rfl
  have p0 := (HK1.out.below HBW.out).cell (k := 0) rfl
  have p1 := (HK1.out.below HBW.out).cell (k := 1) rfl
  go_upto_region 5 with (go_at_call 26; refine (H2.out _ HBW.out).mono ?_; rintro e w2 ⟨v2, E2, rfl, hb1, hc2⟩; have HJ := Lib.hid (chains_join hb1 HC1.out hc2); have HBW := Lib.hid (below_trans HBW.out hb1); clear hb1 hc2)
  clear d0 d1 p0 p1 H2 HC1
  rcases HJ.out with ⟨rfl, rfl, rfl, hE⟩ | ⟨rfl, rfl, N, A1, A2, c1, c2, X, Y, rfl, rfl, hcr, hN0, hN, hX0, hY0, hver⟩
  · have u1 : (E1 != E1) = false := by simp
    have u2 : (E1 != 0) = true := by rw [bne_iff_ne]; exact hE
    have u2b : (E1 == 0) = false := by rw [beq_eq_false_iff_ne]; exact hE
    clear hE HJ
    have hb0 := Below.refl w2.heap.size w2
    go_upto_region 7 with (fail)
    refine wp_region_quiet_tail 21 (by kernel_rfl) (by kernel_rfl) ?_
    simp only [List.take_succ_cons, List.take_zero, List.drop_succ_cons, List.drop_zero]
    repeat (go_big_quiet_step (fail))
    refine wpQuiet_nil ?_
    go_wp2_with (go_at_call 13; refine (awake_any _).mono ?_; rintro e w8 ⟨rfl, hb1⟩; have HB8 := Lib.hid (below_trans (below_drewN hb0 _) hb1); clear hb1)
    go_ret
    exact ⟨rfl, below_trans HB.out (below_trans HBW.out HB8.out)⟩
  · have HCR := Lib.hid hcr
    obtain ⟨b, off, rfl, a0, a1, -, -⟩ := hcr 0 hN0
    rw [Nat.zero_mul, Nat.add_zero] at a0 a1
    rw [hX0] at a0
    rw [hY0] at a1
    have hV := fun (X1 : World) (hX : Below w2.heap.size w2 X1) (d : Nat) => HV.out X1 (below_trans HBW.out hX) (some ⟨b, off, none⟩) N d X Y (HCR.out.below hX) hN
    rw [hver] at hV
    have HVX := Lib.hid hV
    have u1 : ((N : Int) != (N : Int)) = false := by simp
    have u2 : decide ((0 : Int) < (N : Int)) = true := decide_eq_true (by omega)
    have hn0 : (0 : Int) < (N : Int) := by omega
    have u2n : decide (0 < N) = true := decide_eq_true hN0
    have hN0b := hN0
    have hq1 : ∀ w, (binOp .eql 26 (.agg #[.int .i64 r, .int .i64 t]) (.agg #[.int .i64 r, .int .i64 t])).run Try.prog w = .ok (.bool true) w := fun w => by rw [pointEql]; simp
    have d0 := (HK.out.below HBW.out).cell (k := 0) rfl
    have d1 := (HK.out.below HBW.out).cell (k := 1) rfl
    have p0 := (HK1.out.below HBW.out).cell (k := 0) rfl
    have p1 := (HK1.out.below HBW.out).cell (k := 1) rfl
    have hb0 := Below.refl w2.heap.size w2
    have HSOF := Lib.hid (fun (z : World) (h : Below w2.heap.size w2 z) => (⟨h, cell_below h d0, cell_below h d1, cell_below h p0, cell_below h p1, cell_below h a0, cell_below h a1⟩ : Below w2.heap.size w2 z ∧ z.cell? ⟨bE, 0, none⟩ = some (.int .i64 R) ∧ z.cell? ⟨bE, 1, none⟩ = some (.slice A n c) ∧ z.cell? ⟨bP, 0, none⟩ = some (.int .i64 r) ∧ z.cell? ⟨bP, 1, none⟩ = some (.int .i64 t) ∧ z.cell? ⟨b, off, none⟩ = some (.int .i64 r) ∧ z.cell? ⟨b, off + 1, none⟩ = some (.int .i64 t)))
    clear hcr hN0 hN hX0 hY0 hver hV d0 d1 p0 p1 a0 a1 HV HJ HCR
    go_upto_region 7 with (fail)
    go_region_held3 (fun z => Below w2.heap.size w2 z ∧ z.cell? ⟨bE, 0, none⟩ = some (.int .i64 R) ∧ z.cell? ⟨bE, 1, none⟩ = some (.slice A n c) ∧ z.cell? ⟨bP, 0, none⟩ = some (.int .i64 r) ∧ z.cell? ⟨bP, 1, none⟩ = some (.int .i64 t) ∧ z.cell? ⟨b, off, none⟩ = some (.int .i64 r) ∧ z.cell? ⟨b, off + 1, none⟩ = some (.int .i64 t)) (first | exact HSOF.out _ (by assumption) | exact HSOF.out _ (below_drew hb0) | exact HSOF.out _ (below_trans (And.left (by assumption)) (by assumption)))
      (first
        | (go_at_call 23; refine (HVX.out _ (And.left (by assumption)) _).mono ?_; rintro e w7 ⟨rfl, hb1⟩; have HB7 := below_trans (And.left (by assumption)) hb1; clear hb1)
        | (go_at_call 13; refine (awake_any _).mono ?_; rintro e w8 ⟨rfl, hb1⟩; have HB8 := below_trans (And.left (by assumption)) hb1; clear hb1)
        | fail)
    all_goals (
      have hbz := And.left (by assumption : Below w2.heap.size w2 _ ∧ _)
      go_wp2_with fail
      go_ret
      exact ⟨rfl, below_trans HB.out (below_trans HBW.out hbz)⟩)
end Go.Proofs.Ytahaimecchdfeaa
