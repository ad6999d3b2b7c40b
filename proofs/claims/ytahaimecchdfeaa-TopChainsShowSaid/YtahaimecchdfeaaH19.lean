/-
  Texts of this claim, one after the other: what each proves is said at its head. No condition beyond those that its theorems name.
-/
import Derived.RangeFuncNested
import Derived.RangeFuncBound
import Derived.RangeFuncCalls
import Derived.RangeFuncLeaves
import Derived.Shelf.Abstract
import Derived.Shelf.RegionOpen
import Derived.WalkKit
import Derived.OwnWalkIn
import Derived.TacticsInMore
import Derived.LoopNIn
import Derived.LoopIn
import Derived.BigRegionIn
import Derived.Sort.QuietIn
import Derived.Sort.CutIn
import Derived.Test.YtahaimecchdfeaaProg
import Derived.Test.YtahaimecchdfeaaH01
import Derived.Test.YtahaimecchdfeaaH02
import Derived.Test.YtahaimecchdfeaaH03
import Derived.Test.YtahaimecchdfeaaH09
import Derived.Test.YtahaimecchdfeaaH12
import Derived.Test.YtahaimecchdfeaaH15

/-
  Walks of package attack: the points alike to a point, as an iterator.
-/
namespace Go.Proofs.Ytahaimecchdfeaa
open Go.RowKit Go.Shelf
attribute [local go_sem] Oper.semAt_some

/-- The points alike to a point, agent by agent. -/
def alkL (a : Nat) (L : Nat → Nat → Nat → Int) (pts : List (Nat × Nat)) (i : Nat) : List Nat := (List.range a).flatMap fun g => idA L pts g (L (pts.getD i (0, 0)).1 (pts.getD i (0, 0)).2 g)
/-- What a round keeps: all that lay below a block, and some blocks above. -/
def KpA (n₀ B1 B2 : Nat) (W W' : World) : Prop := Below n₀ W W' ∧ ∀ b, B1 ≤ b → b < B2 → W'.heap[b]? = W.heap[b]?
theorem KpA.trans {n₀ B1 B2 : Nat} {A B C : World} (h : KpA n₀ B1 B2 A B) (k : KpA n₀ B1 B2 B C) : KpA n₀ B1 B2 A C := ⟨h.1.trans k.1, fun b h1 h2 => (k.2 b h1 h2).trans (h.2 b h1 h2)⟩
theorem KpA.put {n₀ B1 B2 : Nat} {w : World} (hn : n₀ ≤ w.heap.size) (hB : B2 ≤ w.heap.size) (W : World) (l : Nat) (o o' : Obj) (hl : w.heap.size ≤ l) (h : W.heap[l]? = some o) (h1 : o.isCells = false) (h2 : o.isWalk = false) : KpA n₀ B1 B2 W (W.putObj l o') :=
  ⟨belowK_b hn W l o o' hl h h1 h2, fun b _ hb => (grownBy_putObj' W l o').block b (by have := (Array.getElem?_eq_some_iff.1 h).1; omega) (fun e => by injection e with e; omega)⟩
set_option maxHeartbeats 4000000 in
set_option maxRecDepth 100000 in
theorem alike_any (bx i : Nat) (w : World) :
    Calls Try.prog 54 #[.pointer (some ⟨bx, 0, none⟩), .int .i64 i] w fun e w' => e = .returned (.func (.func 82) #[] #[.pointer (some ⟨w.heap.size, 0, none⟩), .pointer (some ⟨w.heap.size + 1, 0, none⟩)]) ∧ w' = (w.alloc (.cells #[.pointer (some ⟨bx, 0, none⟩)] 72)).alloc (.cells #[.int .i64 i] 3) := by
  go_enter Try.func54, Try.ntmps54
  go_wp2
  go_ret
  exact ⟨rfl, rfl⟩
theorem SameM.look2 {w0 w : World} {base b n : Nat} {D : DataW Value} {I : Nat → Int → List Nat} (h : SameM w0 base b n D I) (hb : Below w0.heap.size w0 w) {g : Nat} {x : Int} (hg : g < 65536) (hx : okX x) :
    ∃ v, (Instr.lookup 77 (.map (some b)) (.agg #[.int .i64 g, .int .i64 x]) false).run Try.prog w = .ok v w ∧ OwnN w0 base v (I g x) := by
  obtain ⟨v, ps, hrun, hv⟩ := (ownsMap_below h.own hb).lookup (Maps.Keyed.of_law seenLaw) Try.underlying77 (zeroNums w) (show rawR (.slice none 0 0) = some (.held (.slice none 0 0), []) from rfl) (keyS_ok (okX_nat hg) hx)
  refine ⟨v, hrun, ?_⟩
  have e := rawR_at hv
  cases hh : Maps.has D (keyS g x)
  · rw [Maps.atKey_of_not_has hh] at e
    injection e with e
    subst e
    rw [h.miss g x hg hx hh]
    exact OwnN.nil _ _
  · obtain ⟨u, eu, ho⟩ := h.rows g x hg hx hh
    rw [e] at eu
    injection eu with eu
    subst eu
    exact ho
theorem blk_drew2 {w : World} {b : Nat} {T : TypeId} {xs : Array Value} (h : Blk w b T xs) : Blk w.drew b T xs := h
/-- What has come of the first agents. -/
def preG (L : Nat → Nat → Nat → Int) (pts : List (Nat × Nat)) (r t g : Nat) : List Nat := (List.range g).flatMap fun k => idA L pts k (L r t k)
theorem preG_succ (L : Nat → Nat → Nat → Int) (pts : List (Nat × Nat)) (r t g : Nat) : preG L pts r t (g + 1) = preG L pts r t g ++ idA L pts g (L r t g) := by unfold preG; rw [List.range_succ, List.flatMap_append]; simp
theorem preG_pre (L : Nat → Nat → Nat → Int) (pts : List (Nat × Nat)) (r t g : Nat) : ∀ d, preG L pts r t g <+: preG L pts r t (g + d)
  | 0 => List.prefix_refl _
  | d + 1 => (preG_pre L pts r t g d).trans (by rw [show g + (d + 1) = (g + d) + 1 from rfl, preG_succ]; exact List.prefix_append _ _)
theorem preG_take {L : Nat → Nat → Nat → Int} {pts : List (Nat × Nat)} {r t g a : Nat} (j : Nat) (h : g < a) : preG L pts r t g ++ (idA L pts g (L r t g)).take j <+: preG L pts r t a := by
  have h1 : preG L pts r t g ++ (idA L pts g (L r t g)).take j <+: preG L pts r t (g + 1) := by
    rw [preG_succ]
    exact (List.prefix_append_right_inj _).2 (List.take_prefix _ _)
  have h2 := preG_pre L pts r t (g + 1) (a - (g + 1))
  rw [show g + 1 + (a - (g + 1)) = a by omega] at h2
  exact h1.trans h2
/-- A space, as it lies: the system's runs, the points, the map. -/
structure SpV (w : World) (bx bM a l n : Nat) (f : Int) (A : Option Addr) (c : Nat) (T : Nat → Nat) (m : Nat → Nat → Nat) (L : Nat → Nat → Nat → Int) (K : Nat → Nat) (F : Nat → Nat → Nat) (vP : Value) : Prop where
  sys : RunsR w A n T m L K F
  chk : chkE a f l n T m K F = 0
  box : Blk w bx 79 #[.int .i64 a, .int .i64 f, .int .i64 l, .slice A n c, vP, .map (some bM)]
  pts : ∃ base, PnO w base vP (ptL n l)
  same : ∃ base k D, SameM w base bM k D (idB a L (ptL n l))
theorem SpV.below {w w1 : World} {bx bM a l n c : Nat} {f : Int} {A : Option Addr} {T : Nat → Nat} {m : Nat → Nat → Nat} {L : Nat → Nat → Nat → Int} {K : Nat → Nat} {F : Nat → Nat → Nat} {vP : Value} (h : SpV w bx bM a l n f A c T m L K F vP) (hb : Below w.heap.size w w1) : SpV w1 bx bM a l n f A c T m L K F vP :=
  ⟨h.sys.below hb, h.chk, h.box.below hb, h.pts.imp fun _ h => h.below hb, by obtain ⟨base, k, D, hs⟩ := h.same; exact ⟨base, k, D, hs.below hb⟩⟩
set_option maxHeartbeats 8000000 in
set_option maxRecDepth 100000 in
theorem alike1_in (N : Nat) (hN : 1 ≤ N) (ly Bx Bi B1 B2 i bx bM a l n c : Nat) (f : Int) (A : Option Addr) (T : Nat → Nat) (m : Nat → Nat → Nat) (L : Nat → Nat → Nat → Int) (K : Nat → Nat) (F : Nat → Nat → Nat) (vP : Value) (w0 : World)
    (hs : SpV w0 bx bM a l n f A c T m L K F vP) (hi : i < (ptL n l).length) (hB1 : B1 ≤ Bx ∧ Bx < B2) (_hB2 : B1 ≤ Bi ∧ Bi < B2) (J Jx : List Nat → World → Prop) (W : World) (hJ : AbidesFrom W.heap.size J)
    (hY : ∀ pre x W1, J pre W1 → pre ++ [x] <+: alkL a L (ptL n l) i → YieldAt Fence.wide (N - 1) Try.prog ly #[.int .i64 (x : Nat)] W1 fun e W' =>
      (e = .returned (.bool true) ∧ J (pre ++ [x]) W' ∧ KpA w0.heap.size B1 B2 W1 W') ∨ (e = .returned (.bool false) ∧ Jx (pre ++ [x]) W'))
    (hb : Below w0.heap.size w0 W) (hx : Blk W Bx 72 #[.pointer (some ⟨bx, 0, none⟩)]) (hi2 : Blk W Bi 3 #[.int .i64 i]) (h0 : J [] W) :
    CallsIn Fence.wide N Try.prog 82 #[.func (.yield ly) #[] #[], .pointer (some ⟨Bx, 0, none⟩), .pointer (some ⟨Bi, 0, none⟩)] W fun e W' => (∃ v, e = .returned v) ∧
      ((∃ ys, ys = alkL a L (ptL n l) i ∧ J ys W') ∨ (∃ pre, pre <+: alkL a L (ptL n l) i ∧ Jx pre W')) := by
  obtain ⟨p, hp⟩ : ∃ p, (ptL n l)[i]? = some p := ⟨_, List.getElem?_eq_getElem hi⟩
  obtain ⟨hp1, hp2⟩ := ptL_mem.1 (List.mem_of_getElem? hp)
  obtain ⟨base, hpts⟩ := hs.pts
  obtain ⟨gp, kp, rfl, c1, c2⟩ := pnO_at hpts hp
  have hpl : (ptL n l).length ≤ 1024 := by
    have h1 := (chkE_ok hs.chk).2.2.1
    have h2 := (chkE_ok hs.chk).2.2.2.1
    rw [ptL_len]
    exact Nat.le_trans (Nat.mul_le_mul h2 (show l ≤ 16 by omega)) (by decide)
  have HPL := Lib.hid hpl
  obtain ⟨NP, eNP⟩ : ∃ q, q = (ptL n l).length := ⟨_, rfl⟩
  rw [← eNP] at hpl hi
  have hii : (i : Int) < (NP : Int) := by omega
  refine callsIn_of_wp Try.func82 rfl trivial ?_ rfl
  simp only [Try.ntmps82, List.size_toArray, List.length_cons, List.length_nil, Nat.reduceAdd, Nat.reduceSub, Array.replicate_succ, Array.replicate_zero, List.push_toArray, List.append_toArray, List.nil_append, List.cons_append]
  have hbx0 := hs.box.below hb
  have x0 := hx.cell (k := 0) rfl
  have i0 := hi2.cell (k := 0) rfl
  have b0 := hbx0.cell (k := 0) rfl
  have b1 := hbx0.cell (k := 1) rfl
  have b2 := hbx0.cell (k := 2) rfl
  have b3 := hbx0.cell (k := 3) rfl
  have b4 : W.cell? ⟨bx, 4, none⟩ = some (.slice (some ⟨gp, 0, none⟩) NP kp) := by rw [eNP]; exact hbx0.cell (k := 4) rfl
  have b5 := hbx0.cell (k := 5) rfl
  have p0 := cell_below hb c1
  have p1 := cell_below hb c2
  have hba := below_alloc W (.cells #[.int .i64 0, .int .i64 0] 26)
  have x0a := cell_below hba x0
  have i0a := cell_below hba i0
  have b4a := cell_below hba b4
  have p0a := cell_below hba p0
  have p1a := cell_below hba p1
  obtain ⟨ha, -, hl, hn64, h512, -, hfr, -⟩ := chkE_ok hs.chk
  obtain ⟨r, er⟩ : ∃ r, r = p.1 := ⟨_, rfl⟩
  obtain ⟨t, et⟩ : ∃ r, r = p.2 := ⟨_, rfl⟩
  rw [← er] at p0 p0a hp1 c1
  rw [← et] at p1 p1a hp2 c2
  have htT : t < T r ∧ m r t = a := by
    obtain ⟨h1, -, h2⟩ := hfr r hp1
    have h3 : t < T r := by omega
    exact ⟨h3, by have := h2 t h3; omega⟩
  obtain ⟨g4, o4, rfl⟩ : ∃ g o, A = some ⟨g, o, none⟩ := by
    obtain ⟨g, o, _, _, e, -⟩ := hs.sys 0 (by omega)
    exact ⟨g, o, e⟩
  obtain ⟨Ax, cx, Bx', dx, y0, y1, ⟨Ry, ccy, hM⟩, -⟩ := runs_at hs.sys hp1
  obtain ⟨b1', off1, rfl, z0, -, hI⟩ := hM t htT.1
  rw [htT.2] at z0 hI
  obtain ⟨TX, eTX⟩ : ∃ q, q = T r := ⟨_, rfl⟩
  obtain ⟨KX, eKX⟩ : ∃ q, q = K r := ⟨_, rfl⟩
  obtain ⟨ck, eck⟩ : ∃ q, q = ccy t := ⟨_, rfl⟩
  obtain ⟨RR, eRR⟩ : ∃ q, q = Ry t := ⟨_, rfl⟩
  rw [← eTX] at y0 htT
  rw [← eKX] at y1
  rw [← eck, ← eRR] at z0
  rw [← eRR] at hI
  have HY0 := Lib.hid y0
  have HY1 := Lib.hid y1
  have HZ0 := Lib.hid z0
  have HI := Lib.hid hI
  have HSV := Lib.hid hs
  have htT1 := htT.1
  have hr1 : (r : Int) < (n : Int) := by omega
  have ht1 : (t : Int) < (TX : Int) := by omega
  have hal : a ≤ 4 := by omega
  have HER := Lib.hid (show (ptL n l).getD i (0, 0) = p by rw [List.getD_eq_getElem?_getD, hp]; rfl)
  have HER1 := Lib.hid er
  have HET1 := Lib.hid et
  have HJ := Lib.hid hJ
  have HYY := Lib.hid hY
  have HBW := Lib.hid hb
  have HXB := Lib.hid hx
  have hJ0 := h0
  have HB2 := Lib.hid hB1
  clear hpts hbx0 eNP y0 y1 z0 hI hM hs ha hl h512 hfr eTX eKX eck eRR hY hJ htT
  gi_wp2
  gi_region
  gi_upto_region 1 with (fail)
  rw [← er, ← et]
  clear er et hp
  have hba := below_alloc W (.cells #[.int .i64 r, .int .i64 t] 26)
  have hbp := Blk.new W #[.int .i64 r, .int .i64 t] 26
  have HJ1 := Lib.hid (HJ.out [] W (W.alloc (.cells #[.int .i64 r, .int .i64 t] 26)).drew none h0 ⟨rfl, rfl, rfl, by simp [World.drew], fun k hk _ => (below_alloc W (.cells #[.int .i64 r, .int .i64 t] 26)).block k hk⟩ (fun _ e => by cases e))
  have hbV : Below w0.heap.size w0 (W.alloc (.cells #[.int .i64 r, .int .i64 t] 26)).drew := below_drew (below_trans hb hba)
  have hxV : Blk (W.alloc (.cells #[.int .i64 r, .int .i64 t] 26)).drew Bx 72 #[.pointer (some ⟨bx, 0, none⟩)] := blk_drew2 (hx.below hba)
  have q0 : (W.alloc (.cells #[.int .i64 r, .int .i64 t] 26)).drew.cell? ⟨W.heap.size, 0, none⟩ = some (.int .i64 r) := hbp.cell (k := 0) rfl
  have q1 : (W.alloc (.cells #[.int .i64 r, .int .i64 t] 26)).drew.cell? ⟨W.heap.size, 1, none⟩ = some (.int .i64 t) := hbp.cell (k := 1) rfl
  clear x0 i0 b0 b1 b2 b3 b4 b5 p0 p1 x0a i0a b4a p0a p1a hba hbp
  obtain ⟨V, eV⟩ : ∃ V, V = (W.alloc (.cells #[.int .i64 r, .int .i64 t] 26)).drew := ⟨_, rfl⟩
  rw [← eV] at HJ1 hbV hxV q0 q1 ⊢
  have hWV : W.heap.size ≤ V.heap.size := by rw [eV]; exact (below_alloc W _).size
  clear eV
  obtain ⟨bp, ebp⟩ : ∃ b, b = W.heap.size := ⟨_, rfl⟩
  rw [← ebp] at q0 q1 ⊢
  clear ebp
  have hbx0 := HSV.out.box.below hbV
  have x0 := hxV.cell (k := 0) rfl
  have b0 := hbx0.cell (k := 0) rfl
  have b1 := hbx0.cell (k := 1) rfl
  have b2 := hbx0.cell (k := 2) rfl
  have b3 := hbx0.cell (k := 3) rfl
  have b5 := hbx0.cell (k := 5) rfl
  have y0 := cell_below hbV HY0.out
  have y1 := cell_below hbV HY1.out
  have z0 := cell_below hbV HZ0.out
  clear hbx0
  gi_region
  gi_upto_region 2 with (fail)
  have HAL : Hid (alkL a L (ptL n l) i = preG L (ptL n l) r t a) := Lib.hid (by unfold alkL preG; rw [HER.out, ← HER1.out, ← HET1.out])
  obtain ⟨pts, epts⟩ : ∃ q, q = ptL n l := ⟨_, rfl⟩
  rw [← epts] at HAL HYY
  have EPT := Lib.hid epts
  have HJ2 := Lib.hid (HJ.out [] V V.drew none HJ1.out ⟨rfl, rfl, rfl, Nat.le_refl _, fun _ _ _ => rfl⟩ (fun _ e => by cases e))
  clear x0 b0 b1 b2 b3 b5 y0 y1 z0 q0 q1 epts
  gi_loopw [31] (fun gv wr => ∃ g : Nat, g ≤ a ∧ gv = .int .i64 g ∧ Below w0.heap.size w0 wr ∧ Blk wr Bx 72 #[.pointer (some ⟨bx, 0, none⟩)] ∧ J (preG L pts r t g) wr) (fun gv _ => a - (intOf gv).toNat)
  case atStart => exact ⟨0, Nat.zero_le _, rfl, below_drew hbV, blk_drew2 hxV, HJ2.out⟩
  case round =>
    obtain ⟨g, hg, rfl, hb1, hx1, hj1⟩ := hrel
    by_cases hlt : g < a
    · have hgg : (g : Int) < (a : Int) := by omega
      obtain ⟨b2, off2, rfl, c3, h3, h4⟩ := HI.out g hlt
      have c3 := cell_below hb1 c3
      obtain ⟨y, ey⟩ : ∃ y, y = L r t g := ⟨_, rfl⟩
      rw [← ey] at c3 h3 h4
      have x0 := hx1.cell (k := 0) rfl
      have b5 := (HSV.out.box.below hb1).cell (k := 5) rfl
      obtain ⟨base', k', D', hsm⟩ := HSV.out.same
      obtain ⟨v, hrun, hown⟩ := hsm.look2 hb1 (show g < 65536 by omega) (⟨h3, h4⟩ : okX y)
      obtain ⟨Av, cv, rfl⟩ := hown.shape
      rw [← EPT.out] at hown hrun
      have hid : idB a L pts g y = idA L pts g (L r t g) := by unfold idB; rw [if_pos hlt, ey]
      rw [hid] at hown hrun
      obtain ⟨ids, eids⟩ : ∃ q, q = idA L pts g (L r t g) := ⟨_, rfl⟩
      rw [← eids] at hown hrun
      have HOW := Lib.hid hown
      have EID := Lib.hid eids
      obtain ⟨len, elen⟩ : ∃ q, q = ids.length := ⟨_, rfl⟩
      rw [← elen] at hrun
      have ELN := Lib.hid elen
      have hlen : len ≤ 1024 := by
        rw [elen, eids]
        unfold idA
        refine Nat.le_trans (List.length_filter_le _ _) ?_
        rw [List.length_range, EPT.out]
        exact HPL.out
      have HJ3 := Lib.hid hj1
      have HB1 := Lib.hid hb1
      have HX1 := Lib.hid hx1
      clear hb1 hx1 hj1 h3 h4 ey hsm hown hid eids elen
      gi_upto_region 5 with (fail)
      clear c3 x0 b5 hrun
      gi_loopw [45] (fun jv wr => ∃ j : Nat, j ≤ len ∧ jv = .int .i64 j ∧ Below w0.heap.size w0 wr ∧ Blk wr Bx 72 #[.pointer (some ⟨bx, 0, none⟩)] ∧ J (preG L pts r t g ++ ids.take j) wr) (fun jv _ => len - (intOf jv).toNat)
      case atStart => exact ⟨0, Nat.zero_le _, rfl, HB1.out, HX1.out, by rw [List.take_zero, List.append_nil]; exact HJ3.out⟩
      case round =>
        obtain ⟨j, hj, rfl, hb1, hx1, hj1⟩ := hrel
        by_cases hlt2 : j < len
        · have hjj : (j : Int) < (len : Int) := by omega
          obtain ⟨k, hk⟩ : ∃ k, ids[j]? = some k := ⟨_, List.getElem?_eq_getElem (by rw [← ELN.out]; exact hlt2)⟩
          obtain ⟨bv, cv', ev, c3⟩ := HOW.out.at hk
          injection ev with ev1 ev2 ev3
          subst ev1
          have c3 := cell_below hb1 c3
          have htk : ids.take j ++ [k] = ids.take (j + 1) := by rw [List.take_add_one, hk]; rfl
          have hpre : preG L pts r t g ++ ids.take (j + 1) <+: alkL a L (ptL n l) i := by rw [← EPT.out, HAL.out, EID.out]; exact preG_take (j + 1) hlt
          have hpre0 := hpre
          have hln : (preG L pts r t g ++ ids.take j) ++ [k] <+: alkL a L pts i := by
            rw [← EPT.out] at hpre
            rw [List.append_assoc, htk]
            exact hpre
          obtain ⟨fn, tmps, assign, body, hy, hR⟩ := HYY.out _ k wr hj1 hln
          have HBJ := Lib.hid hb1
          have HXJ := Lib.hid hx1
          have HTK := Lib.hid htk
          have HPR := Lib.hid hpre0
          clear hb1 hx1 hj1 ev2 ev3 htk hpre hpre0 hln
          gi_wp2
          refine hR.mono ?_
          rintro e W3 (⟨rfl, hJ3, hk3⟩ | ⟨rfl, hJx3⟩)
          · have HB3 := Lib.hid (HBJ.out.trans hk3.1)
            have HX3 : Hid (Blk W3 Bx 72 #[.pointer (some ⟨bx, 0, none⟩)]) := Lib.hid ((hk3.2 Bx HB2.out.1 HB2.out.2).trans HXJ.out)
            clear hk3
            gi_wp2
            go_roundw
            case rel => exact ⟨j + 1, by omega, by go_num, HB3.out, HX3.out, by rw [← HTK.out, ← List.append_assoc]; exact hJ3⟩
            case measure => simp [intOf]; omega
          · gi_wp2
            refine bodyPost_ret (results_none rfl _ _ _) rfl ?_
            exact ⟨⟨_, rfl⟩, .inr ⟨_, HPR.out, by rw [← HTK.out, ← List.append_assoc]; exact hJx3⟩⟩
        · obtain rfl : j = len := by omega
          have hjj : ¬ (j : Int) < (j : Int) := by omega
          have HBJ := Lib.hid hb1
          have HXJ := Lib.hid hx1
          have HJJ : Hid (J (preG L pts r t (g + 1)) wr) := Lib.hid (by
            rw [preG_succ, ← EID.out]
            rw [ELN.out, List.take_length] at hj1
            exact hj1)
          clear hb1 hx1 hj1
          gi_wp2
          go_roundw
          case rel => exact ⟨g + 1, by omega, by go_num, HBJ.out, HXJ.out, HJJ.out⟩
          case measure => simp [intOf]; omega
    · obtain rfl : g = a := by omega
      have hgg : ¬ (g : Int) < (g : Int) := by omega
      have HJ3 := Lib.hid hj1
      clear hb1 hx1 hj1
      gi_wp2
      go_end0
      exact ⟨⟨_, rfl⟩, .inl (by first | exact ⟨_, by rw [← EPT.out, HAL.out], HJ3.out⟩ | (rw [← EPT.out, HAL.out]; exact HJ3.out))⟩
end Go.Proofs.Ytahaimecchdfeaa
