/-
  Walks of layer 54: Patterns of the reference.
-/
import Derived.Test.YtgnkeecjaffnaaaProg
import Derived.Test.YtgnkeecjaffnaaaBase
import Derived.Test.YtgnkeecjaffnaaaRow
import Derived.Test.YtgnkeecjaffnaaaRowsOf
import Derived.Test.YtgnkeecjaffnaaaPc
import Derived.Test.YtgnkeecjaffnaaaPd
import Derived.Test.YtgnkeecjaffnaaaPrF
import Derived.Test.YtgnkeecjaffnaaaPrM
import Derived.Test.YtgnkeecjaffnaaaPtP
import Derived.Test.YtgnkeecjaffnaaaPtQ
import Derived.Test.YtgnkeecjaffnaaaPtB
import Derived.Test.YtgnkeecjaffnaaaPzA
import Derived.Deep.RegionHeld3
import Derived.Deep.AppendLies
import Derived.Deep.DeepCutAuto
namespace Go.Proofs.Ytgnkeecjaffnaaa
open Go.RowKit

/-- Append of all that a row of the call's own holds, at a step of a drawn region. -/
theorem step_append_row {P : Program} (w w0 : World) (hb0 : Below w0.heap.size w0 w) {ops : Array Oper} {o : Oper} {a : Act} {K : Act → World → Prop} {Q : Exit → Act → World → Prop} {E : Prop} (hgd : o.guard = none) (s x : Operand) (t : TypeId)
    (ho : o.op = .call { callee := .builtin .append, args := #[s, x], argTypes := #[t, t] })
    (e : TypeId) (i : TypeInfo) (z : Value) (size bytes : Nat) (ht : P.underlying t = some (.slice e)) (hi : P.info? e = some i) (hz : i.zero = some z)
    (hsize : i.size = size) (hby : i.bytes = bytes) (hzs : z.cells.size = size) (hsz : 0 < size)
    (v : Value) (n : Nat) (xs : List Value) (hs : a.eval s = v) (hown : w.ownsRow w0.heap.size e size v n xs)
    (base' : Nat) (rv : Value) (m : Nat) (ys : List Value) (hx : a.eval x = rv) (hrow : w.ownsRow base' e size rv m ys) (h1 : ∀ u ∈ ys, u.oneCell' = true)
    (h63 : n + m ≤ maxLen) (hbytes : (n + m) * bytes ≤ 140737488355328)
    (h : ∀ v' w', w'.ownsRow w0.heap.size e size v' (n + m) (xs ++ ys) → w.grownBy w' v.ownBlock → Below w0.heap.size w0 w' → K (a.put o.dst v') w') :
    if Region.wanted o (yielded ops a.tmps) = true then Oper.wp P o a w K Q else E := by
  have hw : Region.wanted o (yielded ops a.tmps) = true := by simp [Region.wanted, hgd]
  rw [if_pos hw]
  rcases hrow.2 with ⟨h0, hm0⟩ | ⟨g, cap, cur, h0, -⟩
  · subst hm0
    have hy : ys = [] := List.eq_nil_of_length_eq_zero (by rw [hrow.1, Nat.zero_mul])
    subst hy
    have hrun := run_append_owned_none (P := P) (w := w) w0.heap.size t o.type e i size ht hi v n xs hown
    have hxx := hx.trans h0
    unfold Oper.wp
    simp [execOp, ho, resolve, invoke, builtin, hs, hxx, hrun, Result.andThen]
    refine h v w ?_ ⟨rfl, rfl, rfl, Nat.le_refl _, fun _ _ _ => rfl⟩ hb0
    rw [List.append_nil]; exact hown
  · subst h0
    obtain ⟨v', w', hr, h2, h3, _, _⟩ := run_append_own_at (P := P) w w0.heap.size t o.type e i z size bytes ht hi hz hsize hby hzs hsz v n xs hown ⟨g, 0, none⟩ m cap ys hrow.1 (hrow.cells (g := g) rfl) h1 h63 hbytes hb0.size
    unfold Oper.wp execOp
    simp only [ho, resolve, invoke, builtin, Sem.run_bind, Sem.run_pure, Result.andThen_ok, List.map_toArray, List.map_cons, List.map_nil, hs, hx, hr]
    exact h v' w' h2 h3 (below_grow hb0 hown h3)
theorem own_zeroC (w : World) (e : TypeId) (sz base b : Nat) (hb : b = w.heap.size) (hbase : base ≤ w.heap.size) : (w.alloc (.cells #[] e)).ownsRow base e sz (.slice (some ⟨b, 0, none⟩) 0 0) 0 [] := by
  subst hb
  exact ⟨by simp, .inr ⟨w.heap.size, 0, #[], rfl, hbase, heap_alloc_new w _, Nat.le_refl _, by decide, by simp, by simp⟩⟩
theorem blk_drew {w : World} {b : Nat} {T : TypeId} {xs : Array Value} (h : Blk w b T xs) : Blk w.drew b T xs := h
theorem own_drew {w : World} {base e sz n : Nat} {v : Value} {xs : List Value} (h : w.ownsRow base e sz v n xs) : w.drew.ownsRow base e sz v n xs := h
theorem PatsO.at {w : World} {base : Nat} {v : Value} {ls : List (List (Nat × Nat))} (h : PatsO w base v ls) {i : Nat} {l : List (Nat × Nat)} (hi : ls[i]? = some l) : ∃ b c rv, v = .slice (some ⟨b, 0, none⟩) ls.length c ∧ w.cell? ⟨b, i, none⟩ = some rv ∧ CrO w base rv l := by
  obtain ⟨rows, ho, hr⟩ := h
  obtain ⟨rv, h1, h2⟩ := hr i l hi
  obtain ⟨A, c, rfl, hA⟩ := own_form ho
  obtain ⟨b, rfl, _, _, hc⟩ := hA i (List.getElem?_eq_some_iff.1 hi).1
  rw [Nat.zero_add] at hc
  exact ⟨b, c, rv, rfl, hc.trans h1, h2⟩
theorem PatsO.shape {w : World} {base : Nat} {v : Value} {ls : List (List (Nat × Nat))} (h : PatsO w base v ls) : ∃ A c, v = .slice A ls.length c := by
  obtain ⟨rows, ho, _⟩ := h
  obtain ⟨A, c, rfl, _⟩ := own_form ho
  exact ⟨A, c, rfl⟩
/-- The start: the empty pattern alone. -/
theorem PatsO.one (w : World) (base : Nat) (hb : base ≤ w.heap.size) : PatsO (w.alloc (.cells #[.slice none 0 0] 26)) base (.slice (some ⟨w.heap.size, 0, none⟩) 1 1) [[]] :=
  ⟨[.slice none 0 0], own_one (Blk.new w _ _) hb, fun i l h => by
    have hi : i = 0 := by
      have := (List.getElem?_eq_some_iff.1 h).1
      simp at this; omega
    subst hi
    have : l = [] := by simpa using h.symm
    subst this
    exact ⟨_, rfl, World.ownsRow_nil _ _ _ _⟩⟩
theorem patE_eq {N R F : Nat} (h : 2 ≤ N ∧ N ≤ 4 ∧ R ≤ 3 ∧ F ≤ N) : patE N F R = (if 64 < (pfx N R F N).length then 8 else 0) ∧ ((pfx N R F N).length ≤ 64 → patL N F R = pfx N R F N) := by
  have hb : patOkB N F R = true := decide_eq_true (by omega)
  have h1 : patE N F R = (if 64 < (pfx N R F N).length then 8 else 0) := by
    unfold patE
    rw [if_pos hb, Int.toNat_natCast, Int.toNat_natCast, Int.toNat_natCast]
    have : (patR N R F).length = min 65 (pfx N R F N).length := by unfold patR pT pfx; rw [List.length_take]; simp
    rw [this]
    by_cases h64 : 64 < (pfx N R F N).length
    · rw [if_pos h64, if_pos (by omega)]
    · rw [if_neg h64, if_neg (by omega)]
  refine ⟨h1, fun hle => ?_⟩
  have h0 : patE N F R = 0 := by rw [h1, if_neg (by omega)]
  unfold patL
  rw [if_pos h0, Int.toNat_natCast, Int.toNat_natCast, Int.toNat_natCast]
  unfold patR pT
  rw [List.nil_append]
  exact List.take_of_length_le (by unfold pfx at hle; omega)
set_option maxHeartbeats 4000000 in
set_option maxRecDepth 100000 in
theorem rPatterns_any (n F R : Int) (w : World) :
    Calls Try.prog 35 #[.int .i64 n, .int .i64 F, .int .i64 R] w (PtsPost w (patL n F R) (patE n F R)) := by
  have bad : ¬ ((2 ≤ n ∧ n ≤ 4 ∧ 0 ≤ R ∧ R ≤ 3) ∧ 0 ≤ F ∧ F ≤ n) → patE n F R = 2 := fun h => by
    unfold patE; rw [if_neg]; unfold patOkB; simpa using h
  by_cases a1 : n < 2
  · have e1 : decide (n < 2) = true := decide_eq_true a1
    have hE := bad (by omega)
    clear a1 bad
    have HE := Lib.hid hE
    have HL := Lib.hid (show patL n F R = [] from if_neg (by rw [hE]; decide))
    clear hE
    go_enter Try.func35, Try.ntmps35
    go_wp2_with fail
    go_ret2
    exact ⟨_, by rw [HE.out]; rfl, by rw [HL.out]; exact PatsO.nil _ _, Below.refl _ _⟩
  have e1 : decide (n < 2) = false := decide_eq_false a1
  by_cases a2 : 4 < n
  · have e2 : decide (4 < n) = true := decide_eq_true a2
    have hE := bad (by omega)
    clear a1 a2 bad
    have HE := Lib.hid hE
    have HL := Lib.hid (show patL n F R = [] from if_neg (by rw [hE]; decide))
    clear hE
    go_enter Try.func35, Try.ntmps35
    go_wp2_with fail
    go_ret2
    exact ⟨_, by rw [HE.out]; rfl, by rw [HL.out]; exact PatsO.nil _ _, Below.refl _ _⟩
  have e2 : decide (4 < n) = false := decide_eq_false a2
  by_cases a3 : R < 0
  · have e3 : decide (R < 0) = true := decide_eq_true a3
    have hE := bad (by omega)
    clear a1 a2 a3 bad
    have HE := Lib.hid hE
    have HL := Lib.hid (show patL n F R = [] from if_neg (by rw [hE]; decide))
    clear hE
    go_enter Try.func35, Try.ntmps35
    go_wp2_with fail
    go_ret2
    exact ⟨_, by rw [HE.out]; rfl, by rw [HL.out]; exact PatsO.nil _ _, Below.refl _ _⟩
  have e3 : decide (R < 0) = false := decide_eq_false a3
  by_cases a4 : 3 < R
  · have e4 : decide (3 < R) = true := decide_eq_true a4
    have hE := bad (by omega)
    clear a1 a2 a3 a4 bad
    have HE := Lib.hid hE
    have HL := Lib.hid (show patL n F R = [] from if_neg (by rw [hE]; decide))
    clear hE
    go_enter Try.func35, Try.ntmps35
    go_wp2_with fail
    go_ret2
    exact ⟨_, by rw [HE.out]; rfl, by rw [HL.out]; exact PatsO.nil _ _, Below.refl _ _⟩
  have e4 : decide (3 < R) = false := decide_eq_false a4
  by_cases a5 : F < 0
  · have e5 : decide (F < 0) = true := decide_eq_true a5
    have hE := bad (by omega)
    clear a1 a2 a3 a4 a5 bad
    have HE := Lib.hid hE
    have HL := Lib.hid (show patL n F R = [] from if_neg (by rw [hE]; decide))
    clear hE
    go_enter Try.func35, Try.ntmps35
    go_wp2_with fail
    go_ret2
    exact ⟨_, by rw [HE.out]; rfl, by rw [HL.out]; exact PatsO.nil _ _, Below.refl _ _⟩
  have e5 : decide (F < 0) = false := decide_eq_false a5
  by_cases a6 : n < F
  · have e6 : decide (n < F) = true := decide_eq_true a6
    have hE := bad (by omega)
    clear a1 a2 a3 a4 a5 a6 bad
    have HE := Lib.hid hE
    have HL := Lib.hid (show patL n F R = [] from if_neg (by rw [hE]; decide))
    clear hE
    go_enter Try.func35, Try.ntmps35
    go_wp2_with fail
    go_ret2
    exact ⟨_, by rw [HE.out]; rfl, by rw [HL.out]; exact PatsO.nil _ _, Below.refl _ _⟩
  have e6 : decide (n < F) = false := decide_eq_false a6
  obtain ⟨N, rfl⟩ : ∃ N : Nat, n = N := ⟨n.toNat, by omega⟩
  obtain ⟨r, rfl⟩ : ∃ N : Nat, R = N := ⟨R.toNat, by omega⟩
  obtain ⟨f, rfl⟩ : ∃ N : Nat, F = N := ⟨F.toNat, by omega⟩
  have h4 : N ≤ 4 := by omega
  have h3 : r ≤ 3 := by omega
  have e6n : decide (N < f) = false := decide_eq_false (by omega)
  have HPE := Lib.hid (patE_eq (N := N) (R := r) (F := f) (by omega))
  have HCH := Lib.hid (fun i w (hi : i < N) => choices_any N r i w h4 h3 hi)
  clear a1 a2 a3 a4 a5 a6 bad
  go_enter Try.func35, Try.ntmps35
  go_upto_region 4 with (fail)
  have HO := Lib.hid (PatsO.one w w.heap.size (Nat.le_refl _))
  have HB := Lib.hid (below_alloc w (.cells #[.slice none 0 0] 26))
  generalize w.alloc (.cells #[.slice none 0 0] 26) = W at HO HB ⊢
  generalize Value.slice (some ⟨w.heap.size, 0, none⟩) 1 1 = v0 at HO ⊢
  go_wp2_with fail
  go_loopw [8, 9] (fun ov iv wr => ∃ i : Nat, i ≤ N ∧ iv = .int .i64 i ∧ Hid ((pfx N r f i).length ≤ 64) ∧ PatsO wr w.heap.size ov (pfx N r f i) ∧ Below w.heap.size w wr) (fun _ iv _ => N - (intOf iv).toNat)
  case atStart => exact ⟨0, Nat.zero_le _, rfl, Lib.hid (by rw [pfx_zero]; decide), HO.out, HB.out⟩
  case round =>
    clear HO HB
    obtain ⟨i, hi, rfl, HLE, ho, hb⟩ := hrel
    have HB := Lib.hid hb
    have HO := Lib.hid ho
    obtain ⟨AO, cO, rfl⟩ := ho.shape
    obtain ⟨NO, eNO⟩ : ∃ m, m = (pfx N r f i).length := ⟨_, rfl⟩
    rw [← eNO] at HO HLE ⊢
    have ENO := Lib.hid eNO
    have hNO : NO ≤ 64 := HLE.out
    clear ho hb eNO
    by_cases hlt : i < N
    · go_upto_region 9 with (go_at_call 59; refine (HCH.out i _ hlt).mono ?_; rintro e w1 ⟨cv, rfl, hc, hb1⟩; have HC := Lib.hid hc; have HO := Lib.hid (HO.out.below hb1); have HB := Lib.hid (HB.out.trans (hb1.mono HB.out.size)); clear hc hb1)
      obtain ⟨AC, cC, rfl⟩ : ∃ A c, cv = .slice A (chA N r i).length c := by
        obtain ⟨A, c, e, -⟩ := own_form' HC.out
        exact ⟨A, c, e⟩
      have hCL := chA_len (i := i) h4 h3
      obtain ⟨NC, eNC⟩ : ∃ m, m = (chA N r i).length := ⟨_, rfl⟩
      rw [← eNC] at HC hCL ⊢
      have ENC := Lib.hid eNC
      have hsV := HB.out.size
      obtain ⟨V0, eW⟩ : ∃ V0, V0 = w1 := ⟨_, rfl⟩
      subst eW
      have hii : (i : Int) < (N : Int) := by omega
      clear eNC
      go_wp2_with fail
      go_loopw [10, 12] (fun nv kv wx => ∃ k : Nat, k ≤ NO ∧ kv = .int .i64 k ∧ PatsO wx V0.heap.size nv (pnx N r f i k 0) ∧ Below V0.heap.size V0 wx) (fun _ kv _ => NO - (intOf kv).toNat)
      case atStart => exact ⟨0, Nat.zero_le _, rfl, by rw [pnx_zero]; exact PatsO.nil _ _, Below.refl _ _⟩
      case round =>
        obtain ⟨k, hk, rfl, hnx, hbx⟩ := hrel
        have HNX := Lib.hid hnx
        have HBX := Lib.hid hbx
        by_cases hlk : k < NO
        · obtain ⟨l, hl⟩ : ∃ l, (pfx N r f i)[k]? = some l := ⟨_, List.getElem?_eq_getElem (by rw [← ENO.out]; exact hlk)⟩
          have hll := pfx_len (List.mem_of_getElem? hl)
          have hl4 : l.length ≤ 4 := by omega
          have HL := Lib.hid hl
          have HLL := Lib.hid hll
          have hkk : (k : Int) < (NO : Int) := by omega
          clear hl hll hnx hbx
          go_wp2_with fail
          go_loopw [10, 13] (fun nv mv wx => ∃ m : Nat, m ≤ NC ∧ mv = .int .i64 m ∧ PatsO wx V0.heap.size nv (pnx N r f i k m) ∧ Below V0.heap.size V0 wx) (fun _ mv _ => NC - (intOf mv).toNat)
          case atStart => exact ⟨0, Nat.zero_le _, rfl, HNX.out, HBX.out⟩
          case round =>
            clear HNX HBX
            obtain ⟨m, hm, rfl, hnx, hbx⟩ := hrel
            by_cases hlm : m < NC
            · obtain ⟨c, hc⟩ : ∃ c, (chA N r i)[m]? = some c := ⟨_, List.getElem?_eq_getElem (by rw [← ENC.out]; exact hlm)⟩
              have hpl := pnx_len (i := i) (k := k) (m := m) (F := f) h4 h3 (by rw [← ENO.out]; exact hNO)
              have HYE := Lib.hid (fun h => pnx_yes HL.out hc (F := f) h)
              have HNO := Lib.hid (fun h => pnx_no HL.out hc (F := f) h)
              have hOx := HO.out.below hbx
              have hCx := own_keeps HC.out (Keeps.of_below hbx _)
              obtain ⟨bO, cO', rv, eO, cl0, hrow⟩ := hOx.at HL.out
              obtain ⟨bC, cC', eC, d1, d2⟩ := crO_at hCx hc
              injection eO with eO1 eO2 eO3
              injection eC with eC1 eC2 eC3
              subst eO1 eC1
              obtain ⟨Ar, cr, rfl, -⟩ := own_form' hrow
              obtain ⟨V1, eW⟩ : ∃ V1, V1 = wr := ⟨_, rfl⟩
              subst eW
              obtain ⟨c1, ec1⟩ : ∃ x, x = c.1 := ⟨_, rfl⟩
              obtain ⟨c2, ec2⟩ : ∃ x, x = c.2 := ⟨_, rfl⟩
              rw [← ec1] at d1
              rw [← ec2] at d2
              have HCR := Lib.hid (show crL (l ++ [c]) = crL l ++ [.int .i64 c1, .int .i64 c2] by rw [crL_snoc, ec1, ec2])
              have HROW := Lib.hid hrow
              have HNX := Lib.hid hnx
              have HBX := Lib.hid hbx
              have hsx := hbx.size
              have hmm : (m : Int) < (NC : Int) := by omega
              clear hOx hCx hrow hnx hbx hc eO2 eO3 eC2 eC3 ec1 ec2
              go_upto_region 15 with (fail)
              have HSOF := Lib.hid (fun (y : World) (h : Below V1.heap.size V1 y) => (⟨h, cell_below h cl0, cell_below h d1, cell_below h d2⟩ : Below V1.heap.size V1 y ∧ y.cell? ⟨bO, k, none⟩ = some (.slice Ar l.length cr) ∧ y.cell? ⟨bC, m * 2, none⟩ = some (.int .i64 c1) ∧ y.cell? ⟨bC, m * 2 + 1, none⟩ = some (.int .i64 c2)))
              have hb0 := Below.refl V1.heap.size V1
              clear cl0 d1 d2
              go_cut [14] (fun s14 wc => ∃ A14 c14, s14 = .slice A14 (l.length + 1) c14 ∧ wc.ownsRow V1.heap.size 37 2 s14 (l.length + 1) (crL (l ++ [c])) ∧ Below V1.heap.size V1 wc)
              case first =>
                go_region_held3 (fun x => Below V1.heap.size V1 x ∧ x.cell? ⟨bO, k, none⟩ = some (.slice Ar l.length cr) ∧ x.cell? ⟨bC, m * 2, none⟩ = some (.int .i64 c1) ∧ x.cell? ⟨bC, m * 2 + 1, none⟩ = some (.int .i64 c2)) (first | exact HSOF.out _ (by assumption) | exact HSOF.out _ (below_drew hb0) | exact HSOF.out _ (below_more (And.left (by assumption)) _) | exact HSOF.out _ (below_more (by assumption) _) | exact HSOF.out _ (below_more hb0 _))
                  (first
                    | (have hq := HOW1.out; obtain ⟨i0, hi, hz0, hz1, hz2⟩ := info_parts Try.infoCrash; refine step_append_lies _ (by rfl) _ _ _ (by rfl) V1.heap.size 37 i0 _ 2 16 Try.underlying26 hi hz0 hz1 hz2 rfl (by decide) v1 l.length (crL l) (by rfl) (by first | exact hq | exact own_alloc' hq _) _ 1 1 [.int .i64 c1, .int .i64 c2] (by rfl) (by rfl) (World.news_of_block (cs := #[.int .i64 c1, .int .i64 c2]) (t := 37) (fr := (0, 0)) (by first | exact HBC.out | exact Blk.new _ _ _)) (by simp [Value.oneCell']) (by decide) (by unfold maxLen; omega) (by omega) (by first | exact HB1.size | exact (below_more HB1 _).size) _ rfl ?_; intro g5 c5 w5 hown5 hgrow5 _ _; have HB5 : Below V1.heap.size V1 w5 := below_grow (by first | exact HB1 | exact below_more HB1 _) (by first | exact hq | exact own_alloc' hq _) hgrow5; rw [← HCR.out] at hown5; have HOW5 := Lib.hid hown5; clear hi hz0 hz1 hz2 hown5 hgrow5 hq)
                    | (obtain ⟨i0, hi, hz0, hz1, hz2⟩ := info_parts Try.infoCrash; refine step_append_row _ V1 (And.left (by assumption)) (by rfl) _ _ _ (by rfl) 37 i0 _ 2 16 Try.underlying26 hi hz0 hz1 hz2 rfl (by decide) _ 0 [] (by rfl) (by first | exact own_zeroC _ _ _ _ _ (by first | rfl | (simp; done)) (by first | exact Nat.le_refl _ | (simp; done)) | exact own_drew (own_zeroC _ _ _ _ _ (by first | rfl | (simp; done)) (by first | exact Nat.le_refl _ | (simp; done))) | exact own_alloc' (own_zeroC _ _ _ _ _ (by first | rfl | (simp; done)) (by first | exact Nat.le_refl _ | (simp; done))) _ | exact own_drew (own_alloc' (own_zeroC _ _ _ _ _ (by first | rfl | (simp; done)) (by first | exact Nat.le_refl _ | (simp; done))) _)) w.heap.size (.slice Ar l.length cr) l.length (crL l) (by rfl) (by exact own_below' HROW.out (And.left (by assumption)) (Nat.le_refl _)) (crL_one l) (by unfold maxLen; omega) (by omega) ?_; intro v1 w2 hown1 hg1 HB1; rw [Nat.zero_add, List.nil_append] at hown1; have HOW1 := Lib.hid hown1; (first | (have HBC := Lib.hid (show Blk w2 (V1.heap.size + 1) 37 #[.int .i64 c1, .int .i64 c2] from Blk.kept (row := some V1.heap.size) (by first | exact Blk.new' _ _ _ _ (by first | rfl | (simp; done) | fail) | exact blk_drew (Blk.new' _ _ _ _ (by first | rfl | (simp; done) | fail)) | exact (Blk.new' _ _ _ _ (by first | rfl | (simp; done) | fail)).alloc _ | exact blk_drew ((Blk.new' _ _ _ _ (by first | rfl | (simp; done) | fail)).alloc _) | fail) hg1 (by first | (simp; done) | fail))) | (have HBC := Lib.hid (show Blk w2 V1.heap.size 37 #[.int .i64 c1, .int .i64 c2] from Blk.kept (row := some (V1.heap.size + 1)) (by first | exact Blk.new' _ _ _ _ (by first | rfl | (simp; done) | fail) | exact blk_drew (Blk.new' _ _ _ _ (by first | rfl | (simp; done) | fail)) | exact (Blk.new' _ _ _ _ (by first | rfl | (simp; done) | fail)).alloc _ | exact blk_drew ((Blk.new' _ _ _ _ (by first | rfl | (simp; done) | fail)).alloc _) | fail) hg1 (by first | (simp; done) | fail))) | skip); clear hi hz0 hz1 hz2 hown1 hg1)
                    | fail)
                all_goals (go_wp2_with fail; go_meet; exact ⟨_, _, rfl, HOW5.out, HB5⟩)
              case rest =>
                obtain ⟨A14, c14, rfl, hcr, hbc⟩ := hcut
                have hcr2 : CrO wc V1.heap.size (.slice A14 (l.length + 1) c14) (l ++ [c]) := by unfold CrO; rw [List.length_append]; exact hcr
                have HCD := Lib.hid (crashed_any (l ++ [c]) _ _ wc hcr2 (by rw [List.length_append]; show l.length + 1 ≤ 65536; omega))
                have HCR2 := Lib.hid (own_mono' hcr2 hsx)
                obtain ⟨q, eq⟩ : ∃ q, q = crd (l ++ [c]) := ⟨_, rfl⟩
                rw [← eq] at HCD HYE HNO
                have HBY := Lib.hid (below_trans HBX.out hbc)
                have HNY := Lib.hid (HNX.out.below hbc)
                have hsy := HBY.out.size
                clear hcr hcr2 hbc eq HNX HBX HSOF hb0 HROW HCR
                by_cases hqf : q ≤ f
                · have t1 : (q : Int) ≤ (f : Int) := by omega
                  have HST := Lib.hid (HYE.out hqf)
                  obtain ⟨rows, ho2, hr2⟩ := HNY.out
                  have HO2 := Lib.hid ho2
                  have HR2 := Lib.hid hr2
                  clear HYE HNO ho2 hr2 HNY
                  go_wp2_with (first
                    | (go_at_call 60; refine (HCD.out).mono ?_; rintro e w' ⟨rfl, rfl⟩)
                    | (at_builtin; obtain ⟨i0, hi, hz0, hz1, hz2⟩ := info_parts Try.infoCrashes; refine wpList_append_own_at _ rfl _ _ 55 rfl V0.heap.size 26 i0 (.slice none 0 0) 1 24 Try.underlying55 hi hz0 hz1 hz2 rfl (by decide) _ _ _ rfl (own_alloc' HO2.out _) ⟨wc.heap.size, 0, none⟩ 1 1 [.slice A14 (l.length + 1) c14] rfl rfl (cell_one_new _ _ _) (one_oneCell rfl) (by unfold maxLen; omega) (by omega) (by simp; omega) ?_; intro v7 w7 hown7 hg7 _ _; have HOW7 := Lib.hid hown7; have HG7 := Lib.hid hg7; clear hown7 hg7 hi hz0 hz1 hz2))
                  go_roundw
                  case rel =>
                    have hd := HCR2.out
                    rw [List.length_append] at hd
                    exact ⟨m + 1, by omega, by go_num, by rw [HST.out]; exact PatsO.push HO2.out HR2.out HCR2.out HOW7.out HG7.out, below_append HBY.out rfl HO2.out HG7.out⟩
                  case measure => simp [intOf]; omega
                · have t1 : ¬ (q : Int) ≤ (f : Int) := by omega
                  have HST := Lib.hid (HNO.out hqf)
                  clear HYE HNO
                  go_wp2_with (go_at_call 60; refine (HCD.out).mono ?_; rintro e w' ⟨rfl, rfl⟩)
                  go_roundw
                  case rel => exact ⟨m + 1, by omega, by go_num, by rw [HST.out]; exact HNY.out, HBY.out⟩
                  case measure => simp [intOf]; omega
            · obtain rfl : m = NC := by omega
              rw [ENC.out, pnx_row HL.out] at hnx
              have HNX := Lib.hid hnx
              have HBX := Lib.hid hbx
              clear hnx hbx
              go_wp2_with fail
              go_roundw
              case rel => exact ⟨k + 1, by omega, by go_num, HNX.out, HBX.out⟩
              case measure => simp [intOf]; omega
        · obtain rfl : k = NO := by omega
          rw [ENO.out, pnx_end] at hnx
          obtain ⟨AN, cN, rfl⟩ := hnx.shape
          obtain ⟨NX, eNX⟩ : ∃ m, m = (pfx N r f (i + 1)).length := ⟨_, rfl⟩
          rw [← eNX] at hnx ⊢
          have HNX := Lib.hid hnx
          have HBX := Lib.hid (HB.out.trans (hbx.mono HB.out.size))
          have ENX := Lib.hid eNX
          clear hnx hbx eNX
          by_cases h64 : 64 < NX
          · have t1 : decide ((64 : Int) < (NX : Int)) = true := decide_eq_true (by omega)
            have t1' : decide (64 < NX) = true := decide_eq_true h64
            have hE8 : patE N f r = 8 := by
              rw [HPE.out.1, if_pos]
              have := pfx_le (n := N) (R := r) (F := f) (i := i + 1) (N - (i + 1))
              rw [show i + 1 + (N - (i + 1)) = N from by omega, ← ENX.out] at this
              omega
            have HE := Lib.hid hE8
            have HL := Lib.hid (show patL N f r = [] from if_neg (by rw [hE8]; decide))
            clear hE8 h64
            go_wp2_with fail
            go_ret2
            exact ⟨_, by rw [HE.out]; rfl, by rw [HL.out]; exact PatsO.nil _ _, HBX.out⟩
          · have t1 : decide ((64 : Int) < (NX : Int)) = false := decide_eq_false (by omega)
            have t1' : decide (64 < NX) = false := decide_eq_false h64
            have HL64 := Lib.hid (show (pfx N r f (i + 1)).length ≤ 64 by rw [← ENX.out]; omega)
            clear h64
            go_wp2_with fail
            go_roundw
            case rel => exact ⟨i + 1, by omega, by go_num, HL64, HNX.out.mono hsV, HBX.out⟩
            case measure => simp [intOf]; omega
    · obtain rfl : i = N := by omega
      have HE := Lib.hid (show patE i f r = 0 by rw [HPE.out.1, ← ENO.out, if_neg (by omega)])
      have HL := Lib.hid (show patL i f r = pfx i r f i from HPE.out.2 (by rw [← ENO.out]; exact hNO))
      have hir : ¬ (i : Int) < (i : Int) := by omega
      go_wp2_with fail
      go_ret2
      exact ⟨_, by rw [HE.out]; rfl, by rw [HL.out]; exact HO.out, HB.out⟩
end Go.Proofs.Ytgnkeecjaffnaaa
