/-
  Walks of package runs: Recalls, where it holds.
-/
import Derived.Test.YtgnkeecjaffnaaaProg
import Derived.Test.YtgnkeecjaffnaaaBase
import Derived.Test.YtgnkeecjaffnaaaRow
import Derived.Test.YtgnkeecjaffnaaaRowsOf
import Derived.Test.YtgnkeecjaffnaaaPc
import Derived.Test.YtgnkeecjaffnaaaPd
import Derived.Test.YtgnkeecjaffnaaaPrI
import Derived.Test.YtgnkeecjaffnaaaQcB
import Derived.Test.YtgnkeecjaffnaaaQcC
import Derived.Test.YtgnkeecjaffnaaaQcD
import Derived.Test.YtgnkeecjaffnaaaSlI
import Derived.Test.YtgnkeecjaffnaaaMp
import Derived.Deep.DeepCutAuto
import Derived.Deep.RegionHeld3
namespace Go.Proofs.Ytgnkeecjaffnaaa
open Go.RowKit

theorem compact_mem {l : List Int} {x : Int} (h : x ∈ Lib.compact l) : x ∈ l := by
  have key : ∀ m, m ≤ l.length → ∀ y, y ∈ Lib.compactUpTo l.toArray m → y ∈ l := by
    intro m
    induction m with
    | zero => intro _ y hy; simp [Lib.compactUpTo] at hy
    | succ m ih =>
      intro hm y hy
      rw [Lib.compactUpTo_succ, List.mem_append] at hy
      rcases hy with hy | hy
      · exact ih (by omega) y hy
      · split at hy
        · simp at hy
          subst hy
          rw [List.getElem?_eq_getElem (by omega)]
          exact List.getElem_mem _
        · simp at hy
  exact key l.length (Nat.le_refl _) x h
/-- Two slices that hold the same list are equal. -/
theorem equal_his {w : World} {lo lo' : Nat} {u v : Value} {l : List Int} (hu : HisR w lo u l) (hv : HisR w lo' v l) (hr : ∀ x, x ∈ l → -9223372036854775808 ≤ x ∧ x ≤ 9223372036854775807) (hl : l.length ≤ 65536) :
    Calls Try.prog 70 #[u, v] w fun e w' => e = .returned (.bool true) ∧ Below w.heap.size w w' := by
  obtain ⟨A, c, rfl, hA⟩ := hu.i64s hr
  obtain ⟨B, d, rfl, hB⟩ := hv.i64s hr
  refine (equalI_any A B l.length l.length c d _ _ w hA hB (by omega) (by omega)).mono ?_
  rintro e w' ⟨rfl, hb⟩
  exact ⟨by rw [eqI_iff.2 ⟨rfl, fun _ _ => rfl⟩], hb⟩
theorem lawInts : Maps.Keyed Try.prog 3 := Maps.int_keyed Try.underlying3
theorem zeroInts (w : World) : (zeroValue 38).run Try.prog w = .ok (.slice none 0 0) w := by kernel_rfl
/-- What the map of Recalls holds: a history of an earlier point. -/
def SeeQ (L : Nat → Nat → Nat → Int) (g n l : Nat) (w : World) (lo : Nat) (kl : Lit) (v : Value) : Prop := ∃ r t, r < n ∧ t < l ∧ kl = .int .i64 (L r t g) ∧ HisR w lo v (Lib.compact (hisL L r t g))
theorem SeeQ.below {L : Nat → Nat → Nat → Int} {g n l : Nat} {w w1 : World} {lo : Nat} {kl : Lit} {v : Value} (h : SeeQ L g n l w lo kl v) (hb : Below w.heap.size w w1) : SeeQ L g n l w1 lo kl v := by
  obtain ⟨r, t, h1, h2, h3, h4⟩ := h
  exact ⟨r, t, h1, h2, h3, h4.below hb⟩
theorem SeeQ.grown {L : Nat → Nat → Nat → Int} {g n l : Nat} {w w1 : World} {lo b : Nat} {kl : Lit} {v : Value} (h : SeeQ L g n l w lo kl v) (hg : w.grownBy w1 (some b)) (hb : b < lo) : SeeQ L g n l w1 lo kl v := by
  obtain ⟨r, t, h1, h2, h3, h4⟩ := h
  exact ⟨r, t, h1, h2, h3, h4.grown hg hb⟩
/-- The map of Recalls, and what it holds. -/
structure SeenR (L : Nat → Nat → Nat → Int) (g n l : Nat) (w : World) (b j : Nat) (D : DataW Value) : Prop where
  own : w.ownsMap Try.prog 3 rawR b j D
  items : MapI D (.slice none 0 0) (SeeQ L g n l w (b + 1))
theorem SeenR.below {L : Nat → Nat → Nat → Int} {g n l : Nat} {w w1 : World} {b j : Nat} {D : DataW Value} (h : SeenR L g n l w b j D) (hb : Below w.heap.size w w1) : SeenR L g n l w1 b j D :=
  ⟨ownsMap_below h.own hb, h.items.imp fun _ _ q => q.below hb⟩
theorem SeenR.made (L : Nat → Nat → Nat → Int) (g n l : Nat) (w : World) : SeenR L g n l (w.alloc (.map #[] 0)) w.heap.size 0 (.map []) := ⟨World.ownsMap_made _ _ _ _, MapI.nil _ _⟩
theorem SeenR.put {L : Nat → Nat → Nat → Int} {g n l r t : Nat} {w w1 : World} {b j : Nat} {D : DataW Value} {v : Value} (h : SeenR L g n l w b j D) (ho : w1.ownsMap Try.prog 3 rawR b (j + 1) (D.put (.int .i64 (L r t g)) (.held v))) (hg : w.grownBy w1 (some b)) (hr : r < n) (ht : t < l) (hv : HisR w (b + 1) v (Lib.compact (hisL L r t g))) : SeenR L g n l w1 b (j + 1) (D.put (.int .i64 (L r t g)) (.held v)) :=
  ⟨ho, h.items.put h.own.isMap (by simp [WideAt.IsKeyLit]) (fun _ _ _ q => q.grown hg (Nat.lt_succ_self _)) ⟨r, t, hr, ht, rfl, hv.grown hg (Nat.lt_succ_self _)⟩⟩

set_option maxHeartbeats 4000000 in
set_option maxRecDepth 100000 in
theorem Recalls_yes (x : Value) (a f l : Int) (n : Nat) (T : Nat → Nat) (m : Nat → Nat → Nat) (L : Nat → Nat → Nat → Int) (K : Nat → Nat) (F : Nat → Nat → Nat) (w : World) (h : SysR w x a f l n T m L K F) (hn : n ≤ 65536) (hE : chkE a f l n T m K F = 0)
    (hs : ∀ r t r' t' g, r < n → t < l.toNat → r' < n → t' < l.toNat → g < a.toNat → L r t g = L r' t' g → hisL L r t g = hisL L r' t' g) :
    Calls Try.prog 41 #[x] w fun e w' => e = .returned (.bool true) ∧ Below w.heap.size w w' := by
  obtain ⟨ha, -, hl, hn64, h512, -, hfr, -⟩ := chkE_ok hE
  have HCK := Lib.hid (fun W (h : SysR W x a f l n T m L K F) => rCheckS_any x a f l n T m L K F W h hn)
  rw [hE] at HCK
  have HPT := Lib.hid (fun W (h : SysR W x a f l n T m L K F) => Points_any x a f l n T m L K F W h hn hE)
  obtain ⟨A, c, rfl, hR⟩ := h
  obtain ⟨l', rfl⟩ : ∃ N : Nat, l = N := ⟨l.toNat, by omega⟩
  obtain ⟨a', rfl⟩ : ∃ N : Nat, a = N := ⟨a.toNat, by omega⟩
  rw [Int.toNat_natCast] at hs HPT
  rw [Int.toNat_natCast] at hs
  have HSY := Lib.hid hs
  have hl16 : l' ≤ 16 := by omega
  have ha4 : a' ≤ 4 := by omega
  have hfr2 : ∀ r t, r < n → t < l' → t < T r ∧ m r t = a' := fun r t hr ht => by
    obtain ⟨h1, -, h2⟩ := hfr r hr
    have : t < T r := by omega
    exact ⟨this, by have := h2 t this; omega⟩
  have hrg : ∀ r t g, r < n → t < l' → g < a' → -9223372036854775808 ≤ L r t g ∧ L r t g ≤ 9223372036854775807 := fun r t g hr ht hg => by
    obtain ⟨b, off, u, v, e, c0, c1, hT, hK, Au, cu, Bv, dv, Ru, ccu, euv, hM, hU⟩ := hR r hr
    obtain ⟨b1, off1, e1, c2, hm, hI⟩ := hM t (hfr2 r t hr ht).1
    obtain ⟨b2, off2, eR, c3, h3, h4⟩ := hI g (by rw [(hfr2 r t hr ht).2]; exact hg)
    exact ⟨h3, h4⟩
  have HLR := Lib.hid (fun r t g (hr : r < n) (ht : t < l') (hg : g < a') => (⟨fun x hx => by
      have h1 := compact_mem hx
      unfold hisL at h1
      obtain ⟨j, hj, rfl⟩ := List.mem_map.1 h1
      exact hrg r j g hr (by have := List.mem_range.1 hj; omega) hg, by
      have h1 := Lib.compact_length_le (hisL L r t g)
      have h2 : (hisL L r t g).length = t + 1 := by unfold hisL; simp
      omega⟩ : (∀ x, x ∈ Lib.compact (hisL L r t g) → -9223372036854775808 ≤ x ∧ x ≤ 9223372036854775807) ∧ (Lib.compact (hisL L r t g)).length ≤ 65536))
  have HRG := Lib.hid hrg
  have HFR := Lib.hid hfr2
  have hpl : (ptL n l').length ≤ 1024 := by
    rw [ptL_len]
    exact Nat.le_trans (Nat.mul_le_mul hn64 (show l' ≤ 16 by omega)) (by decide)
  have HB := Lib.hid (below_alloc w (.cells #[.int .i64 a', .int .i64 f, .int .i64 l', .slice A n c] 44))
  have HK := Lib.hid (Blk.new w #[.int .i64 a', .int .i64 f, .int .i64 l', .slice A n c] 44)
  have HRW := Lib.hid (hR.below HB.out)
  have hmm := @run_makeMap Try.prog
  clear hR hE h512 hl hs hfr hfr2 ha hrg hl16
  go_enter Try.func41, Try.ntmps41
  go_upto_region 1 with (fail)
  generalize w.alloc (.cells #[.int .i64 a', .int .i64 f, .int .i64 l', .slice A n c] 44) = W at HB HK HRW ⊢
  obtain ⟨bs, ebs⟩ : ∃ b, b = w.heap.size := ⟨_, rfl⟩
  rw [← ebs] at HK ⊢
  clear ebs
  have d0 := HK.out.cell (k := 0) rfl
  have d1 := HK.out.cell (k := 1) rfl
  have d2 := HK.out.cell (k := 2) rfl
  have d3 := HK.out.cell (k := 3) rfl
  have D0 := Lib.hid d0
  have D1 := Lib.hid d1
  have D2 := Lib.hid d2
  have D3 := Lib.hid d3
  have HSW := Lib.hid (fun X (hX : Below W.heap.size W X) => (show SysR X (.agg #[.int .i64 a', .int .i64 f, .int .i64 l', .slice A n c]) a' f l' n T m L K F from ⟨A, c, rfl, HRW.out.below hX⟩))
  obtain ⟨pts, epts⟩ : ∃ p, p = ptL n l' := ⟨_, rfl⟩
  have HME := Lib.hid (fun p => (show p ∈ pts ↔ p.1 < n ∧ p.2 < l' by rw [epts]; exact ptL_mem))
  rw [← epts] at HPT hpl
  obtain ⟨NP, eNP⟩ : ∃ q, q = pts.length := ⟨_, rfl⟩
  rw [← eNP] at hpl
  have ENP := Lib.hid eNP
  clear epts eNP
  go_upto_region 2 with (fail)
  clear d0 d1 d2 d3
  go_loopw [13] (fun gv wr => ∃ g : Nat, g ≤ a' ∧ gv = .int .i64 g ∧ Below W.heap.size W wr) (fun gv _ => a' - (intOf gv).toNat)
  case atStart => exact ⟨0, Nat.zero_le _, rfl, Below.refl _ _⟩
  case round =>
    obtain ⟨g, hg, rfl, hb⟩ := hrel
    have HBW := Lib.hid hb
    by_cases hlt : g < a'
    · have hgg : (g : Int) < (a' : Int) := by omega
      have d0 := cell_below HBW.out D0.out
      have d1 := cell_below HBW.out D1.out
      have d2 := cell_below HBW.out D2.out
      have d3 := cell_below HBW.out D3.out
      have hsz := hb.size
      clear hb
      go_upto_region 5 with (fail)
      have HSE := Lib.hid (SeenR.made L g n l' wr)
      have hba := below_alloc wr (.map #[] 0)
      have d0 := cell_below hba d0
      have d1 := cell_below hba d1
      have d2 := cell_below hba d2
      have d3 := cell_below hba d3
      have HBW := Lib.hid (below_trans HBW.out hba)
      obtain ⟨bM, ebM⟩ : ∃ b, b = wr.heap.size := ⟨_, rfl⟩
      rw [← ebM] at HSE ⊢
      have hWM : W.heap.size ≤ bM := by rw [ebM]; exact hsz
      generalize wr.alloc (.map #[] 0) = V1 at d0 d1 d2 d3 HSE HBW ⊢
      clear hba ebM hsz
      go_upto_region 6 with (go_at_call 67; refine (HPT.out _ (HSW.out _ HBW.out)).mono ?_; rintro e w2 ⟨v, rfl, hq, hb1⟩; have HQ := Lib.hid hq; have HB2 := Lib.hid hb1; obtain ⟨Aq, cq, rfl⟩ := hq.shape; rw [← ENP.out] at HQ ⊢; clear hq hb1)
      have HSE := Lib.hid (HSE.out.below HB2.out)
      have HBW := Lib.hid (below_trans HBW.out HB2.out)
      obtain ⟨pb, epb⟩ : ∃ pb, pb = V1.heap.size := ⟨_, rfl⟩
      rw [← epb] at HQ
      obtain ⟨V2, eW⟩ : ∃ V2, V2 = w2 := ⟨_, rfl⟩
      subst eW
      clear d0 d1 d2 d3 HB2 epb
      go_loopw [20] (fun jv wr => ∃ j : Nat, j ≤ NP ∧ jv = .int .i64 j ∧ (∃ D, SeenR L g n l' wr bM j D) ∧ PnO wr pb (.slice Aq NP cq) pts ∧ Below W.heap.size W wr) (fun jv _ => NP - (intOf jv).toNat)
      case atStart => exact ⟨0, Nat.zero_le _, rfl, ⟨_, HSE.out⟩, HQ.out, HBW.out⟩
      case round =>
        clear HSE HQ HBW
        obtain ⟨j, hj, rfl, ⟨D, hse⟩, hq, hb⟩ := hrel
        have HSE := Lib.hid hse
        have HSE0 := HSE
        have HQ := Lib.hid hq
        have HBZ := Lib.hid hb
        by_cases hlj : j < NP
        · obtain ⟨p', hp'⟩ : ∃ p, pts[j]? = some p := ⟨_, List.getElem?_eq_getElem (by rw [← ENP.out]; exact hlj)⟩
          obtain ⟨hq1, hq2⟩ := (HME.out p').1 (List.mem_of_getElem? hp')
          obtain ⟨gp', kp', ep', c1, c2⟩ := pnO_at hq hp'
          injection ep' with ep' ep2' ep3'
          subst ep'
          obtain ⟨r, er⟩ : ∃ x, x = p'.1 := ⟨_, rfl⟩
          obtain ⟨t, et⟩ : ∃ x, x = p'.2 := ⟨_, rfl⟩
          rw [← er] at c1 hq1
          rw [← et] at c2 hq2
          have hjj : (j : Int) < (NP : Int) := by omega
          have d0 := cell_below HBZ.out D0.out
          have d1 := cell_below HBZ.out D1.out
          have d2 := cell_below HBZ.out D2.out
          have d3 := cell_below HBZ.out D3.out
          clear hp' er et ep2' ep3' hb hse hq
          go_upto_region 8 with (fail)
          have hba := below_alloc wr (.cells #[.int .i64 r, .int .i64 t] 94)
          have hbk := Blk.new wr #[.int .i64 r, .int .i64 t] 94
          have d0 := cell_below hba d0
          have d1 := cell_below hba d1
          have d2 := cell_below hba d2
          have d3 := cell_below hba d3
          have p0 := hbk.cell (k := 0) rfl
          have p1 := hbk.cell (k := 1) rfl
          have HSE := Lib.hid (HSE.out.below hba)
          have HQ := Lib.hid (HQ.out.below hba)
          have HBZ := Lib.hid (below_trans HBZ.out hba)
          generalize wr.alloc (.cells #[.int .i64 r, .int .i64 t] 94) = V3 at d0 d1 d2 d3 p0 p1 HSE HQ HBZ ⊢
          generalize wr.heap.size = bq at p0 p1 ⊢
          clear hba hbk c1 c2 HSE0
          have hMV : bM + 1 ≤ V3.heap.size := HSE.out.own.lt
          have hr1 := (HFR.out r t hq1 hq2).1
          have hm1 : ∀ j, j ≤ t → g < m r j := fun j hj => by rw [(HFR.out r j hq1 (Nat.lt_of_le_of_lt hj hq2)).2]; exact hlt
          have HRR := Lib.hid (HRW.out.below HBZ.out)
          have HL1 := Lib.hid (fun X (hX : Below V3.heap.size V3 X) => (local_any a' f l' n r t g A c T m L K F X (HRR.out.below hX) hn hq1 hr1 (hm1 t (Nat.le_refl _))))
          have HH1 := Lib.hid (fun X (hX : Below V3.heap.size V3 X) => (history_any a' f l' n r t g A c T m L K F X (HRR.out.below hX) hn hq1 hr1 hm1).mono (R' := fun e w' => ∃ u, e = .returned u ∧ HisR w' (bM + 1) u (Lib.compact (hisL L r t g)) ∧ Below X.heap.size X w') (fun e w' h => by
            obtain ⟨u, rfl, ⟨q, cap, e1, h1, h2, h3⟩, hb⟩ := h
            exact ⟨u, rfl, ⟨q, cap, e1, Nat.le_trans (Nat.le_trans hMV hX.size) h1, h2, h3⟩, hb⟩))
          have HLX := HLR.out r t g hq1 hq2 hlt
          have HRX := HRG.out r t g hq1 hq2 hlt
          obtain ⟨y, ey⟩ : ∃ y, y = L r t g := ⟨_, rfl⟩
          obtain ⟨hs, ehs⟩ : ∃ y, y = Lib.compact (hisL L r t g) := ⟨_, rfl⟩
          rw [← ey] at HL1 HRX
          rw [← ehs] at HH1 HLX
          have HSOF := Lib.hid (fun (z : World) (h : Below V3.heap.size V3 z) => (⟨h, cell_below h d0, cell_below h d1, cell_below h d2, cell_below h d3, cell_below h p0, cell_below h p1⟩ : Below V3.heap.size V3 z ∧ z.cell? ⟨bs, 0, none⟩ = some (.int .i64 a') ∧ z.cell? ⟨bs, 1, none⟩ = some (.int .i64 f) ∧ z.cell? ⟨bs, 2, none⟩ = some (.int .i64 l') ∧ z.cell? ⟨bs, 3, none⟩ = some (.slice A n c) ∧ z.cell? ⟨bq, 0, none⟩ = some (.int .i64 r) ∧ z.cell? ⟨bq, 1, none⟩ = some (.int .i64 t)))
          have hb0 := Below.refl V3.heap.size V3
          have EY := Lib.hid ey
          have EHS := Lib.hid ehs
          have HLX := Lib.hid HLX
          have HRX := Lib.hid HRX
          have tok1 : True := trivial
          clear d0 d1 d2 d3 p0 p1 hr1 hm1 ey ehs
          go_region_held3 (fun z => Below V3.heap.size V3 z ∧ z.cell? ⟨bs, 0, none⟩ = some (.int .i64 a') ∧ z.cell? ⟨bs, 1, none⟩ = some (.int .i64 f) ∧ z.cell? ⟨bs, 2, none⟩ = some (.int .i64 l') ∧ z.cell? ⟨bs, 3, none⟩ = some (.slice A n c) ∧ z.cell? ⟨bq, 0, none⟩ = some (.int .i64 r) ∧ z.cell? ⟨bq, 1, none⟩ = some (.int .i64 t)) (first | exact HSOF.out _ (by assumption) | exact HSOF.out _ (below_drew hb0) | exact HSOF.out _ (below_trans (And.left (by assumption)) (by assumption)))
                  (first
                    | (go_at_call 68; refine (HL1.out _ (And.left (by assumption))).mono ?_; rintro e w7 ⟨rfl, hb1⟩; have HB7 := below_trans (And.left (by assumption)) hb1; (try (have HHS := Lib.hid (HisR.below (by exact HHS.out) hb1))); clear hb1)
                    | (go_at_call 69; refine (HH1.out _ (And.left (by assumption))).mono ?_; rintro e w7 ⟨u, rfl, hh, hb1⟩; have HB7 := below_trans (And.left (by assumption)) hb1; have HHS := Lib.hid hh; clear hb1 hh))
          have HSE := Lib.hid (HSE.out.below HB7)
          have HQ := Lib.hid (HQ.out.below HB7)
          have HBZ := Lib.hid (below_trans HBZ.out HB7)
          rename_i hHeld
          clear hHeld HB7 hb0 HSOF
          have hkey : keyOf Try.prog 3 (.int .i64 y) = some (.int .i64 y) := Maps.keyOf_int_mk Try.underlying3 (by simp only [Lit.wf, Bool.and_eq_true, decide_eq_true_eq]; exact HRX.out)
          by_cases hk : Maps.has D (.int .i64 y) = true
          · go_wp2_with (first
              | (at_lookup; refine wpList_lookup_own_ok _ rfl _ _ 96 rfl 3 38 lawInts Try.underlying96 _ (zeroInts _) (.held (.slice none 0 0)) [] rfl bM j D rfl (by exact HSE.out.own) _ _ rfl hkey ?_; intro v ps hv; have HV : Hid (HisR w7 (bM + 1) v hs) := Lib.hid (by
                  obtain ⟨r', t', h1, h2, h3, h4⟩ := HSE.out.items _ _ hk (rawR_at hv)
                  injection h3 with _ h3
                  rw [EHS.out, HSY.out r t r' t' g hq1 hq2 h1 h2 hlt (by rw [← EY.out, h3])]
                  exact h4); clear hv)
              | (go_at_call 70; refine (equal_his HV.out HHS.out HLX.out.1 HLX.out.2).mono ?_; rintro e w8 ⟨rfl, hb1⟩; have HSE8 := Lib.hid (HSE.out.below hb1); have HQ8 := Lib.hid (HQ.out.below hb1); have HBZ8 := Lib.hid (below_trans HBZ.out hb1); have HHS8 := Lib.hid (HHS.out.below hb1); clear hb1)
              | (at_mapUpdate; refine wpList_mapUpdate_own _ rfl _ _ _ 96 rfl 3 38 lawInts Try.underlying96 _ bM j D rfl (by exact HSE8.out.own) (by unfold maxLen; omega) _ _ _ rfl rfl hkey _ [] rfl ?_; intro w9 hown9 hgrow9; have HO9 := Lib.hid hown9; have HG9 := Lib.hid hgrow9; clear hown9 hgrow9)
              | fail)
            go_roundw
            case rel =>
              have ho := HO9.out
              have hh := HHS8.out
              rw [EY.out] at ho
              rw [EHS.out] at hh
              exact ⟨j + 1, by omega, by go_num, ⟨_, HSE8.out.put ho HG9.out hq1 hq2 hh⟩, own_keeps HQ8.out (Keeps.map HSE8.out.own HG9.out _), HBZ8.out.grown HG9.out HBZ8.out.size (fun j hj => by cases hj; exact hWM)⟩
            case measure => simp [intOf]; omega
          · have hk : Maps.has D (.int .i64 y) = false := by simpa using hk
            go_wp2_with (first
              | (at_lookup; refine wpList_lookup_own_ok _ rfl _ _ 96 rfl 3 38 lawInts Try.underlying96 _ (zeroInts _) (.held (.slice none 0 0)) [] rfl bM j D rfl (by exact HSE.out.own) _ _ rfl hkey ?_; intro v ps hv; clear hv)
              | (at_mapUpdate; refine wpList_mapUpdate_own _ rfl _ _ _ 96 rfl 3 38 lawInts Try.underlying96 _ bM j D rfl (by exact HSE.out.own) (by unfold maxLen; omega) _ _ _ rfl rfl hkey _ [] rfl ?_; intro w9 hown9 hgrow9; have HO9 := Lib.hid hown9; have HG9 := Lib.hid hgrow9; clear hown9 hgrow9)
              | fail)
            go_roundw
            case rel =>
              have ho := HO9.out
              have hh := HHS.out
              rw [EY.out] at ho
              rw [EHS.out] at hh
              exact ⟨j + 1, by omega, by go_num, ⟨_, HSE.out.put ho HG9.out hq1 hq2 hh⟩, own_keeps HQ.out (Keeps.map HSE.out.own HG9.out _), HBZ.out.grown HG9.out HBZ.out.size (fun j hj => by cases hj; exact hWM)⟩
            case measure => simp [intOf]; omega
        · obtain rfl : j = NP := by omega
          have hjj : ¬ (j : Int) < (j : Int) := by omega
          clear hb hse hq
          go_wp2_with fail
          go_roundw
          case rel => exact ⟨g + 1, by omega, by go_num, HBZ.out⟩
          case measure => simp [intOf]; omega
    · obtain rfl : g = a' := by omega
      have hgg : ¬ (g : Int) < (g : Int) := by omega
      have d0 := cell_below HBW.out D0.out
      have d1 := cell_below HBW.out D1.out
      have d2 := cell_below HBW.out D2.out
      have d3 := cell_below HBW.out D3.out
      clear hb
      go_wp2_with (go_at_call 39; refine (HCK.out _ (HSW.out _ HBW.out)).mono ?_; rintro e w3 ⟨rfl, hb1⟩; have HBW := Lib.hid (below_trans HBW.out hb1); clear hb1)
      go_ret
      exact ⟨rfl, HB.out.trans (HBW.out.mono HB.out.size)⟩
end Go.Proofs.Ytgnkeecjaffnaaa
