/-
  Texts of this claim, one after the other: what each proves is said at its head. No condition beyond those that its theorems name.
-/
import Derived.Test.YtahaimecchdfeaaProg
import Derived.Deep.DeepCutAuto
import Derived.Deep.RegionHeld3
import Derived.Deep.RegionLaw
import Derived.Deep.AppendLies
import Derived.Test.YtahaimecchdfeaaH01
import Derived.Test.YtahaimecchdfeaaH02
import Derived.Test.YtahaimecchdfeaaH03
import Derived.Test.YtahaimecchdfeaaH09
import Derived.Test.YtahaimecchdfeaaH12

/-
  Walks of package attack: open.
-/
namespace Go.Proofs.Ytahaimecchdfeaa
open Go.RowKit

/-- The box of a space: the system, the points, the map. -/
structure SpB (w0 w : World) (bx bM : Nat) (a f l : Int) (A : Option Addr) (n c : Nat) (vP : Value) (pts : List (Nat × Nat)) (k : Nat) (I : Nat → Int → List Nat) : Prop where
  below : Below w0.heap.size w0 w
  ge : w0.heap.size ≤ bM ∧ w0.heap.size ≤ bx
  box : Blk w bx 79 #[.int .i64 a, .int .i64 f, .int .i64 l, .slice A n c, vP, .map (some bM)]
  pts : PnO w w0.heap.size vP pts
  same : ∃ D, SameM w w0.heap.size bM k D I
theorem SpB.keep {w0 w w1 : World} {bx bM n c k : Nat} {a f l : Int} {A : Option Addr} {vP : Value} {pts : List (Nat × Nat)} {I : Nat → Int → List Nat} (h : SpB w0 w bx bM a f l A n c vP pts k I) (hb : Below w.heap.size w w1) : SpB w0 w1 bx bM a f l A n c vP pts k I :=
  ⟨below_trans h.below hb, h.ge, h.box.below hb, h.pts.below hb, h.same.imp fun _ h => h.below hb⟩
theorem SameM.mono {w : World} {base base' b n : Nat} {D : DataW Value} {I : Nat → Int → List Nat} (h : SameM w base b n D I) (hb : base' ≤ base) : SameM w base' b n D I :=
  ⟨h.own, fun g x h1 h2 h3 => by obtain ⟨v, e, hv⟩ := h.rows g x h1 h2 h3; exact ⟨v, e, hv.mono hb⟩, h.miss, h.apart⟩
theorem SpB.mono {w0 w1 w : World} {bx bM n c k : Nat} {a f l : Int} {A : Option Addr} {vP : Value} {pts : List (Nat × Nat)} {I : Nat → Int → List Nat} (h : SpB w1 w bx bM a f l A n c vP pts k I) (hb : Below w0.heap.size w0 w1) : SpB w0 w bx bM a f l A n c vP pts k I :=
  ⟨hb.trans (h.below.mono hb.size), ⟨Nat.le_trans hb.size h.ge.1, Nat.le_trans hb.size h.ge.2⟩, h.box, own_mono' h.pts hb.size, h.same.imp fun _ h => h.mono hb.size⟩
theorem SpB.congr {w0 w : World} {bx bM n c k : Nat} {a f l : Int} {A : Option Addr} {vP : Value} {pts : List (Nat × Nat)} {I I' : Nat → Int → List Nat} (h : SpB w0 w bx bM a f l A n c vP pts k I) (e : ∀ g x, I g x = I' g x) : SpB w0 w bx bM a f l A n c vP pts k I' :=
  ⟨h.below, h.ge, h.box, h.pts, h.same.imp fun _ h => h.congr e⟩

theorem OwnN.ne_mid {P : Program} {t k : TypeId} {w : World} {base b st n : Nat} {D : DataW Value} {kl : Lit} {v : Value} {l : List Nat} (h : OwnN w base v l) (hm : MidE P t k w b st n D kl) : v.ownBlock ≠ some b := by
  rcases h.2 with ⟨rfl, _⟩ | ⟨g, cap, cur, rfl, hg, hh, _⟩
  · intro e; cases e
  · intro e
    injection e with e
    subst e
    obtain ⟨es, clock, hm, -⟩ := hm
    have := (show w.heap[g]? = _ from hh).symm.trans hm
    simp at this
theorem idG_len (a k : Nat) (L : Nat → Nat → Nat → Int) (pts : List (Nat × Nat)) (p : Nat × Nat) (g : Nat) (x : Int) : (idG a k L pts p g x).length ≤ pts.length + 1 := by
  have h : ∀ pts : List (Nat × Nat), (idA L pts g x).length ≤ pts.length := fun pts => by
    unfold idA
    exact Nat.le_trans (List.length_filter_le _ _) (by simp)
  unfold idG idB
  split
  · have := h (pts ++ [p])
    simpa using this
  · split
    · exact Nat.le_trans (h pts) (Nat.le_succ _)
    · exact Nat.zero_le _
theorem SameM.entry {w w3 : World} {base b n g : Nat} {x : Int} {D : DataW Value} {I : Nat → Int → List Nat} {v0 : Value} (h : SameM w base b n D I) (hg : g < 65536) (hx : okX x)
    (hv : (Maps.has D (keyS g x) = true ∧ D.atKey (keyS g x) (.held (.slice none 0 0)) = .held v0) ∨ (Maps.has D (keyS g x) = false ∧ v0 = .slice none 0 0)) (hk : KeepRow w w3 none) : OwnN w3 base v0 (I g x) := by
  rcases hv with ⟨h1, h2⟩ | ⟨h1, rfl⟩
  · obtain ⟨v, e, ho⟩ := h.rows g x hg hx h1
    rw [h2] at e
    injection e with e
    subst e
    exact own_keepRow ho hk fun _ _ => nofun
  · rw [h.miss g x hg hx h1]; exact OwnN.nil _ _
/-- The number of a point is added to a group. -/
theorem SpB.entry {W V w3 w4 w5 : World} {bx bM n c k g q cap st NP : Nat} {y : Int} {a f l : Int} {A : Option Addr} {vP v0 : Value} {pts : List (Nat × Nat)} {I : Nat → Int → List Nat} {D : DataW Value} (h : SpB W V bx bM a f l A n c vP pts k I) (hs : SameM V W.heap.size bM k D I) (hg : g < 65536) (hx : okX y) (e : TypeId)
    (hv : (Maps.has D (keyS g y) = true ∧ D.atKey (keyS g y) (.held (.slice none 0 0)) = .held v0) ∨ (Maps.has D (keyS g y) = false ∧ v0 = .slice none 0 0))
    (hg3 : (V.alloc (.cells #[.int .i64 NP] e)).grownBy w3 (some bM)) (hm : MidE Try.prog 77 125 w3 bM st k D (keyS g y)) (hg4 : w3.grownBy w4 v0.ownBlock)
    (ho4 : w4.ownsRow W.heap.size 3 1 (.slice (some ⟨q, 0, none⟩) ((I g y).length + 1) cap) ((I g y).length + 1) (natV (I g y) ++ [.int .i64 NP])) (hat : v0.ownBlock = some q ∨ q = w3.heap.size)
    (ho5 : w5.ownsMap Try.prog 125 rawR bM (k + 1) (D.put (keyS g y) (.held (.slice (some ⟨q, 0, none⟩) ((I g y).length + 1) cap)))) (hg5 : w4.grownBy w5 (some bM)) :
    SpB W w5 bx bM a f l A n c vP pts (k + 1) (fun g' x' => if g' = g ∧ x' = y then I g y ++ [NP] else I g' x') ∧ ∀ b T cs, T ≠ 3 → Blk V b T cs → Blk w5 b T cs := by
  have hA := below_alloc V (.cells #[.int .i64 NP] e)
  have hoA := ownsMap_below hs.own hA
  have k3 : ∀ row, KeepRow V w3 row := fun row => (KeepRow.below hA row).trans (KeepRow.map hoA hg3 row)
  have hv0 := hs.entry hg hx hv (k3 none)
  have hm4 := hm.kept hg4 (hv0.ne_mid hm)
  have k5 : KeepRow V w5 v0.ownBlock := ((k3 _).trans (KeepRow.grown hg4)).trans (KeepRow.mid hm4 hg5 _)
  have hblk : ∀ b T cs, T ≠ 3 → Blk V b T cs → Blk w5 b T cs := fun b T cs hT hb => k5 b cs T (0, 0) hb fun e => by
    have hb3 : Blk w3 b T cs := k3 none b cs T (0, 0) hb nofun
    exact hb3.ne_row hv0 hT e
  refine ⟨⟨?_, h.ge, hblk _ _ _ (by decide) h.box, ?_, _, hs.step hg hx hv k5 (fun q' hq' => ?_) ho5 ?_⟩, hblk⟩
  · have b1 := below_trans h.below hA
    have b2 := b1.grown hg3 b1.size (fun j hj => by cases hj; exact h.ge.1)
    have b3 := b2.grown hg4 b2.size (fun j hj => (hv0.lt j hj).1)
    exact b3.grown hg5 b3.size (fun j hj => by cases hj; exact h.ge.1)
  · refine own_keepRow h.pts k5 fun q' hq' e => ?_
    have h3 : PnO w3 W.heap.size vP pts := own_keepRow h.pts (k3 none) fun _ _ => nofun
    rcases h3.2 with ⟨rfl, _⟩ | ⟨g', cap', cur', rfl, _, hh, _⟩
    · cases hq'
    · injection hq' with hq'
      subst hq'
      exact (show Blk w3 g' 26 cur' from hh).ne_row hv0 (by decide) e
  · injection hq' with hq'
    subst hq'
    rcases hat with h1 | h1
    · exact .inl h1
    · refine .inr ?_
      rw [h1]
      exact Nat.le_trans hA.size hg3.size
  · have : OwnN w4 W.heap.size (.slice (some ⟨q, 0, none⟩) ((I g y).length + 1) cap) (I g y ++ [NP]) := by
      unfold OwnN natV
      rw [List.length_append, List.map_append]
      exact ho4
    exact own_keepRow this (KeepRow.mid hm4 hg5 none) fun _ _ => nofun
theorem SameM.keeps {w w' : World} {base b n : Nat} {D : DataW Value} {I : Nat → Int → List Nat} (h : SameM w base b n D I) (ho : w'.ownsMap Try.prog 125 rawR b n D) (hk : Keeps w w' 3) : SameM w' base b n D I :=
  ⟨ho, fun g x h1 h2 h3 => by obtain ⟨v, e, hv⟩ := h.rows g x h1 h2 h3; exact ⟨v, e, own_keeps hv hk⟩, h.miss, h.apart⟩
theorem blk_ne_map {P : Program} {k : TypeId} {R : Value → Option (DataW Value × List MemPlace)} {w : World} {b b' n : Nat} {D : DataW Value} {T : TypeId} {cs : Array Value} (h : w.ownsMap P k R b n D) (hb : Blk w b' T cs) : b' ≠ b := fun e => by
  subst e
  obtain ⟨es, clock, hm, -⟩ := h
  have := (show w.heap[b']? = _ from hb).symm.trans hm
  simp at this
/-- A point is added. -/
theorem SpB.point {W V w3 : World} {bx bM n c k r t : Nat} {a f l : Int} {A : Option Addr} {vP v' : Value} {pts : List (Nat × Nat)} {I : Nat → Int → List Nat} (h : SpB W V bx bM a f l A n c vP pts k I) (e : TypeId) (hg : (V.alloc (.cells #[.int .i64 r, .int .i64 t] e)).grownBy w3 vP.ownBlock)
    (ho : w3.ownsRow W.heap.size 26 2 v' (pts.length + 1) (crL pts ++ [.int .i64 r, .int .i64 t])) :
    SpB W (w3.setCell ⟨bx, 4, none⟩ v') bx bM a f l A n c v' (pts ++ [(r, t)]) k I ∧ ∀ b T cs, T ≠ 26 → T ≠ 79 → Blk V b T cs → Blk (w3.setCell ⟨bx, 4, none⟩ v') b T cs := by
  have hA := below_alloc V (.cells #[.int .i64 r, .int .i64 t] e)
  have hpA := own_alloc' h.pts (.cells #[.int .i64 r, .int .i64 t] e)
  have k3 : ∀ T, T ≠ 26 → Keeps V w3 T := fun T hT => (Keeps.of_below hA T).trans (Keeps.of_grown hg hpA hT)
  have hb3 := k3 _ (by decide) _ _ h.box
  have k4 : ∀ T, T ≠ 26 → T ≠ 79 → Keeps V (w3.setCell ⟨bx, 4, none⟩ v') T := fun T h1 h2 => (k3 T h1).trans (Keeps.of_set hb3 h2 4 v')
  obtain ⟨D, hs⟩ := h.same
  have hm3 : w3.ownsMap Try.prog 125 rawR bM k D := (ownsMap_below hs.own hA).kept hg (by
    rcases hpA.2 with ⟨rfl, _⟩ | ⟨g', cap', cur', rfl, _, hh, _⟩
    · simp [Value.ownBlock]
    · intro e1
      injection e1 with e1
      exact blk_ne_map (ownsMap_below hs.own hA) (show Blk _ g' 26 cur' from hh) e1.symm)
  refine ⟨⟨?_, h.ge, hb3.set 4 v', ?_, D, hs.keeps (hm3.kept (gr_set w3 bx 4 v') fun e1 => ?_) (k4 _ (by decide) (by decide))⟩, fun b T cs h1 h2 hb => k4 T h1 h2 b cs hb⟩
  · exact (below_append h.below rfl h.pts hg).setCell (p := ⟨bx, 4, none⟩) h.ge.2 _
  · unfold PnO
    rw [crL_snoc, List.length_append]
    exact own_keeps ho (Keeps.of_set hb3 (by decide) 4 v')
  · injection e1 with e1
    exact blk_ne_map hm3 hb3 e1.symm
theorem own_succ2 {w : World} {base e sz n : Nat} {v : Value} {xs : List Value} (h : w.ownsRow base e sz v (n + 1) xs) : ∃ g cap, v = .slice (some ⟨g, 0, none⟩) (n + 1) cap := by
  rcases h.2 with ⟨_, h2⟩ | ⟨g, cap, cur, rfl, _⟩
  · cases h2
  · exact ⟨g, cap, rfl⟩
/-- What open leaves. -/
def OpPost (w : World) (x : Value) (a f l : Int) (n : Nat) (L : Nat → Nat → Nat → Int) (e : Ending) (w' : World) : Prop :=
  ∃ A c bx bM vP, x = .agg #[.int .i64 a, .int .i64 f, .int .i64 l, .slice A n c] ∧ e = .returned (.pointer (some ⟨bx, 0, none⟩)) ∧ SpB w w' bx bM a f l A n c vP (ptL n l.toNat) (n * l.toNat * a.toNat) (idB a.toNat L (ptL n l.toNat))
theorem SameM.bound {w : World} {base b n n' : Nat} {D : DataW Value} {I : Nat → Int → List Nat} (h : SameM w base b n D I) (hn : n ≤ n' := by omega) : SameM w base b n' D I := ⟨h.own.mono hn, h.rows, h.miss, h.apart⟩
/-- A run of a system, read. -/
theorem runs_at {w : World} {g o n : Nat} {T : Nat → Nat} {m : Nat → Nat → Nat} {L : Nat → Nat → Nat → Int} {K : Nat → Nat} {F : Nat → Nat → Nat} (h : RunsR w (some ⟨g, o, none⟩) n T m L K F) {i : Nat} (hi : i < n) :
    ∃ Ax cx Bx dx, w.cell? ⟨g, o + i * 2, none⟩ = some (.slice Ax (T i) cx) ∧ w.cell? ⟨g, o + i * 2 + 1, none⟩ = some (.slice Bx (K i) dx) ∧ (∃ R cc, MatI w Ax (T i) R (m i) cc (L i)) ∧ U64s w Bx (K i) (F i) := by
  obtain ⟨b, off, u, v, e, c0, c1, -, -, hr⟩ := h i hi
  injection e with e
  injection e with e1 e2 _
  subst e1 e2
  obtain ⟨Ax, cx, Bx, dx, R, cc, euv, hM, hF⟩ := hr
  obtain ⟨rfl, rfl⟩ : u = .slice Ax (T i) cx ∧ v = .slice Bx (K i) dx := by simpa using euv
  exact ⟨Ax, cx, Bx, dx, c0, c1, ⟨R, cc, hM⟩, hF⟩
set_option maxHeartbeats 8000000 in
set_option maxRecDepth 100000 in
theorem open_any (x : Value) (a f l : Int) (n : Nat) (T : Nat → Nat) (m : Nat → Nat → Nat) (L : Nat → Nat → Nat → Int) (K : Nat → Nat) (F : Nat → Nat → Nat) (w : World) (h : SysR w x a f l n T m L K F) (hn : n ≤ 65536) (hE : chkE a f l n T m K F = 0) :
    Calls Try.prog 57 #[x] w (OpPost w x a f l n L) := by
  obtain ⟨ha, -, hl, hn64, h512, -, hfr, -⟩ := chkE_ok hE
  obtain ⟨A, c, rfl, hR⟩ := h
  obtain ⟨l', rfl⟩ : ∃ N : Nat, l = N := ⟨l.toNat, by omega⟩
  obtain ⟨a', rfl⟩ : ∃ N : Nat, a = N := ⟨a.toNat, by omega⟩
  have hl16 : l' ≤ 16 := by omega
  have ha4 : a' ≤ 4 := by omega
  have hfr2 : ∀ r t, r < n → t < l' → t < T r ∧ m r t = a' := fun r t hr ht => by
    obtain ⟨h1, -, h2⟩ := hfr r hr
    have : t < T r := by omega
    exact ⟨this, by have := h2 t this; omega⟩
  have HFR := Lib.hid hfr2
  have HB := Lib.hid (below_alloc w (.cells #[.int .i64 a', .int .i64 f, .int .i64 l', .slice A n c] 24))
  have HK := Lib.hid (Blk.new w #[.int .i64 a', .int .i64 f, .int .i64 l', .slice A n c] 24)
  have HRW := Lib.hid (hR.below HB.out)
  have hmm := @run_makeMap Try.prog
  clear hR hE h512 hl hfr hfr2 ha
  go_enter Try.func57, Try.ntmps57
  go_upto_region 1 with (fail)
  generalize w.alloc (.cells #[.int .i64 a', .int .i64 f, .int .i64 l', .slice A n c] 24) = W at HB HK HRW ⊢
  obtain ⟨bs, ebs⟩ : ∃ b, b = w.heap.size := ⟨_, rfl⟩
  rw [← ebs] at HK ⊢
  clear ebs
  have d0 := HK.out.cell (k := 0) rfl
  have d1 := HK.out.cell (k := 1) rfl
  have d2 := HK.out.cell (k := 2) rfl
  have d3 := HK.out.cell (k := 3) rfl
  go_upto_region 2 with (fail)
  have hbm := below_alloc W (.map #[] 0)
  have hbb := below_alloc (W.alloc (.map #[] 0)) (.cells #[.int .i64 a', .int .i64 f, .int .i64 l', .slice A n c, .slice none 0 0, .map (some W.heap.size)] 79)
  have HS := Lib.hid (show SpB W ((W.alloc (.map #[] 0)).alloc (.cells #[.int .i64 a', .int .i64 f, .int .i64 l', .slice A n c, .slice none 0 0, .map (some W.heap.size)] 79)) (W.heap.size + 1) W.heap.size a' f l' A n c (.slice none 0 0) (ptU l' 0 0) (0 * l' * a') (idB a' L (ptU l' 0 0)) from
    ⟨below_trans hbm hbb, ⟨Nat.le_refl _, Nat.le_succ _⟩, Blk.new' _ _ _ _ (by simp), World.ownsRow_nil _ _ _ _, ⟨_, ((SameM.made W W.heap.size).below hbb).bound.congr (fun g x => by unfold idB; split <;> rfl)⟩⟩)
  have d0 := cell_below HS.out.below d0
  have d1 := cell_below HS.out.below d1
  have d2 := cell_below HS.out.below d2
  have d3 := cell_below HS.out.below d3
  have D0 := Lib.hid (HK.out.cell (k := 0) rfl)
  have D1 := Lib.hid (HK.out.cell (k := 1) rfl)
  have D2 := Lib.hid (HK.out.cell (k := 2) rfl)
  have D3 := Lib.hid (HK.out.cell (k := 3) rfl)
  obtain ⟨V0, eV0⟩ : ∃ V, V = (W.alloc (.map #[] 0)).alloc (.cells #[.int .i64 a', .int .i64 f, .int .i64 l', .slice A n c, .slice none 0 0, .map (some W.heap.size)] 79) := ⟨_, rfl⟩
  rw [← eV0] at HS d0 d1 d2 d3 ⊢
  clear eV0 hbm hbb
  obtain ⟨bx, ebx⟩ : ∃ b, b = W.heap.size + 1 := ⟨_, rfl⟩
  rw [← ebx] at HS ⊢
  obtain ⟨bM, ebM⟩ : ∃ b, b = W.heap.size := ⟨_, rfl⟩
  rw [← ebM] at HS ⊢
  clear ebx ebM
  go_upto_region 3 with (fail)
  clear d0 d1 d2 d3
  go_loopw [17] (fun rv wr => ∃ r : Nat, r ≤ n ∧ rv = .int .i64 r ∧ ∃ vP, SpB W wr bx bM a' f l' A n c vP (ptU l' r 0) (r * l' * a') (idB a' L (ptU l' r 0))) (fun rv _ => n - (intOf rv).toNat)
  case atStart => exact ⟨0, Nat.zero_le _, rfl, _, HS.out⟩
  case round =>
    clear HS
    obtain ⟨r, hr, rfl, vP, hs⟩ := hrel
    have HS := Lib.hid hs
    by_cases hlt : r < n
    · obtain ⟨g4, o4, rfl⟩ : ∃ g o, A = some ⟨g, o, none⟩ := by
        obtain ⟨g, o, _, _, e, -⟩ := HRW.out 0 (by omega)
        exact ⟨g, o, e⟩
      obtain ⟨Ax, cx, Bx, dx, x0, x1, hrx, -⟩ := runs_at HRW.out hlt
      have HRX := Lib.hid hrx
      have hii : (r : Int) < (n : Int) := by omega
      have x0 := cell_below hs.below x0
      have x1 := cell_below hs.below x1
      have d0 := cell_below hs.below D0.out
      have d1 := cell_below hs.below D1.out
      have d2 := cell_below hs.below D2.out
      have d3 := cell_below hs.below D3.out
      obtain ⟨TX, eTX⟩ : ∃ q, q = T r := ⟨_, rfl⟩
      obtain ⟨KX, eKX⟩ : ∃ q, q = K r := ⟨_, rfl⟩
      rw [← eTX] at x0 HRX
      rw [← eKX] at x1
      have HTX := Lib.hid eTX
      clear hs hrx eTX eKX
      go_upto_region 5 with (fail)
      have hba := below_alloc wr (.cells #[.slice Ax TX cx, .slice Bx KX dx] 69)
      have hbx := Blk.new wr #[.slice Ax TX cx, .slice Bx KX dx] 69
      have d0 := cell_below hba d0
      have d1 := cell_below hba d1
      have d2 := cell_below hba d2
      have d3 := cell_below hba d3
      have HS := Lib.hid (HS.out.keep hba)
      have HKR := Lib.hid hbx
      generalize wr.alloc (.cells #[.slice Ax TX cx, .slice Bx KX dx] 69) = V1 at d0 d1 d2 d3 HS HKR ⊢
      generalize wr.heap.size = bR at HKR ⊢
      clear hba hbx x0 x1
      go_upto_region 6 with (fail)
      clear d0 d1 d2 d3
      go_loopw [24] (fun tv wr => ∃ t : Nat, t ≤ l' ∧ tv = .int .i64 t ∧ (∃ vP, SpB W wr bx bM a' f l' (some ⟨g4, o4, none⟩) n c vP (ptU l' r t) ((r * l' + t) * a') (idB a' L (ptU l' r t))) ∧ Blk wr bR 69 #[.slice Ax TX cx, .slice Bx KX dx]) (fun tv _ => l' - (intOf tv).toNat)
      case atStart => exact ⟨0, Nat.zero_le _, rfl, ⟨_, HS.out⟩, HKR.out⟩
      case round =>
        clear HS HKR
        obtain ⟨t, ht, rfl, ⟨vP2, hs⟩, hkr⟩ := hrel
        have HS := Lib.hid hs
        have HKR := Lib.hid hkr
        by_cases hlt2 : t < l'
        · have htt : (t : Int) < (l' : Int) := by omega
          have htT := (HFR.out r t hlt hlt2).1
          have hma := (HFR.out r t hlt hlt2).2
          rw [← HTX.out] at htT
          have htT2 : (t : Int) < (TX : Int) := by omega
          obtain ⟨Ry, ccy, hM⟩ := HRX.out
          obtain ⟨b1, off1, rfl, c2, -, hI⟩ := hM t htT
          have HI := Lib.hid hI
          obtain ⟨mm, emm⟩ : ∃ q, q = m r t := ⟨_, rfl⟩
          obtain ⟨ck, eck⟩ : ∃ q, q = ccy t := ⟨_, rfl⟩
          obtain ⟨RR, eRR⟩ : ∃ q, q = Ry t := ⟨_, rfl⟩
          rw [← emm, ← eck, ← eRR] at c2
          rw [← emm] at hma HI
          rw [← eRR] at HI
          have c2 := cell_below hs.below c2
          have x0 := hkr.cell (k := 0) rfl
          have x1 := hkr.cell (k := 1) rfl
          clear hs hkr hM hI emm eck eRR
          subst hma
          go_upto_region 9 with (fail)
          clear c2 x0 x1
          go_loopw [33] (fun gv wr => ∃ g : Nat, g ≤ mm ∧ gv = .int .i64 g ∧ SpB W wr bx bM mm f l' (some ⟨g4, o4, none⟩) n c vP2 (ptU l' r t) ((r * l' + t) * mm + g) (idG mm g L (ptU l' r t) (r, t)) ∧ Blk wr bR 69 #[.slice (some ⟨b1, off1, none⟩) TX cx, .slice Bx KX dx]) (fun gv _ => mm - (intOf gv).toNat)
          case atStart => exact ⟨0, Nat.zero_le _, rfl, HS.out.congr (idG_zero mm L _ _), HKR.out⟩
          case round =>
            clear HS HKR
            obtain ⟨g, hg, rfl, hs, hkr⟩ := hrel
            have HS := Lib.hid hs
            have HKR := Lib.hid hkr
            by_cases hlt3 : g < mm
            · have hgg : (g : Int) < (mm : Int) := by omega
              obtain ⟨b2, off2, rfl, c3, hx1, hx2⟩ := HI.out g hlt3
              have c3 := cell_below hs.below c3
              obtain ⟨y, ey⟩ : ∃ y, y = L r t g := ⟨_, rfl⟩
              rw [← ey] at c3 hx1 hx2
              have EY := Lib.hid ey
              have HX := Lib.hid (⟨hx1, hx2⟩ : okX y)
              clear hs hkr ey hx1 hx2
              go_upto_region 12 with (fail)
              have hba := below_alloc wr (.cells #[.int .i64 g, .int .i64 y] 125)
              have hbk := Blk.new wr #[.int .i64 g, .int .i64 y] 125
              have HS := Lib.hid (HS.out.keep hba)
              have HKR := Lib.hid (HKR.out.below hba)
              have q0 := hbk.cell (k := 0) rfl
              have q1 := hbk.cell (k := 1) rfl
              generalize wr.alloc (.cells #[.int .i64 g, .int .i64 y] 125) = V2 at HS HKR q0 q1 ⊢
              generalize wr.heap.size = bk at q0 q1 ⊢
              clear hba hbk c3
              obtain ⟨Ap, cp, rfl⟩ := HS.out.pts.shape
              have hpl := ptU_len l' r t
              obtain ⟨pts, epts⟩ : ∃ p, p = ptU l' r t := ⟨_, rfl⟩
              rw [← epts] at HS hpl
              have EPT := Lib.hid epts
              obtain ⟨NP, eNP⟩ : ∃ q, q = pts.length := ⟨_, rfl⟩
              have HS' := HS
              rw [← eNP] at HS hpl
              have ENP := Lib.hid eNP
              have k4 := HS.out.box.cell (k := 4) rfl
              have k5 := HS.out.box.cell (k := 5) rfl
              obtain ⟨D, hsm⟩ := HS.out.same
              have HSM := Lib.hid hsm
              have hkey := keyS_ok (okX_nat (show g < 65536 by omega)) HX.out
              have hkk : (r * l' + t) * mm + g < 65536 := by
                have h1 : r * l' ≤ 64 * 16 := Nat.mul_le_mul (by omega) hl16
                have h2 : (r * l' + t) * mm ≤ 1040 * 4 := Nat.mul_le_mul (by omega) ha4
                omega
              obtain ⟨kk, ekk⟩ : ∃ q, q = (r * l' + t) * mm + g := ⟨_, rfl⟩
              rw [← ekk] at HS HSM hkk
              have EKK := Lib.hid ekk
              obtain ⟨I, eI⟩ : ∃ q, q = idG mm g L pts (r, t) := ⟨_, rfl⟩
              rw [← eI] at HS HSM
              have EI := Lib.hid eI
              clear hsm eNP epts hpl ekk eI
              obtain ⟨v0, st, w3, hrun3, hg3, hv3, hmid⟩ := raw_entry (t := 77) (w := (V2.alloc (.cells #[.int .i64 NP] 3)).drew) seenLaw Try.underlying77 zeroNums (World.ownsMap.drew (ownsMap_below HSM.out.own (below_alloc V2 (.cells #[.int .i64 NP] 3)))) (show kk < maxLen by unfold maxLen; omega) hkey
              have hrun3 : (Instr.mapEntry 77 (.map (some bM)) (.agg #[.int .i64 g, .int .i64 y])).run Try.prog (V2.alloc (.cells #[.int .i64 NP] 3)).drew = .ok (.tuple #[v0, .int .i64 st]) w3 := hrun3
              have HG3 : Hid ((V2.alloc (.cells #[.int .i64 NP] 3)).grownBy w3 (some bM)) := Lib.hid ⟨hg3.os, hg3.tape, hg3.output, hg3.size, hg3.block⟩
              have hk3 : KeepRow V2 w3 none := (KeepRow.below (below_alloc V2 _) none).trans (KeepRow.map (ownsMap_below HSM.out.own (below_alloc V2 _)) HG3.out none)
              have HV0 := Lib.hid (HSM.out.entry (show g < 65536 by omega) HX.out hv3 hk3)
              have HBL : Hid (Blk w3 V2.heap.size 3 #[.int .i64 NP]) := Lib.hid ((KeepRow.map (ownsMap_below HSM.out.own (below_alloc V2 (.cells #[.int .i64 NP] 3))) HG3.out none) _ _ _ _ (Blk.new V2 #[.int .i64 NP] 3) nofun)
              have HW3 := Lib.hid (Nat.le_trans (Nat.le_trans HS.out.below.size (below_alloc V2 (.cells #[.int .i64 NP] 3)).size) HG3.out.size)
              have HV3 := Lib.hid hv3
              have HMID := Lib.hid hmid
              have HLI : Hid ((I g y).length ≤ 65536) := Lib.hid (by
                rw [EI.out]
                refine Nat.le_trans (idG_len mm g L pts (r, t) g y) ?_
                have h1 : r * l' ≤ 64 * 16 := Nat.mul_le_mul (by omega) hl16
                have h3 : pts.length = r * l' + t := by rw [EPT.out]; exact ptU_len l' r t
                omega)
              have q0a : (V2.alloc (.cells #[.int .i64 NP] 3)).drew.cell? ⟨bk, 0, none⟩ = some (.int .i64 g) := cell_below (below_alloc V2 _) q0
              have q1a : (V2.alloc (.cells #[.int .i64 NP] 3)).drew.cell? ⟨bk, 1, none⟩ = some (.int .i64 y) := cell_below (below_alloc V2 _) q1
              have k4a : (V2.alloc (.cells #[.int .i64 NP] 3)).drew.cell? ⟨bx, 4, none⟩ = some (.slice Ap NP cp) := cell_below (below_alloc V2 _) k4
              have k5a : (V2.alloc (.cells #[.int .i64 NP] 3)).drew.cell? ⟨bx, 5, none⟩ = some (.map (some bM)) := cell_below (below_alloc V2 _) k5
              clear hg3 hv3 hmid hk3
              go_region_law (first
                | (obtain ⟨i0, hi, hz0, hz1, hz2⟩ := info_parts Try.infoInt; refine step_append_lies _ (by rfl) _ _ 75 (by rfl) W.heap.size 3 i0 _ 1 8 Try.underlying75 hi hz0 hz1 hz2 rfl (by decide) v0 (I g y).length (natV (I g y)) (by rfl) (by exact HV0.out) ⟨V2.heap.size, 0, none⟩ 1 1 [.int .i64 NP] (by rfl) (by rfl) (World.news_of_block (cs := #[.int .i64 NP]) (t := 3) (fr := (0, 0)) HBL.out) (one_oneCell rfl) (by decide) (by have := HLI.out; unfold maxLen; omega) (by have := HLI.out; omega) (by exact HW3.out) _ (by rfl) ?_; intro gq capq w4 hown4 hgrow4 hat4 _; obtain ⟨w5, hrun5, ho5, hg5⟩ := (HMID.out.kept hgrow4 (HV0.out.ne_mid HMID.out)).store (.slice (some ⟨gq, 0, none⟩) ((I g y).length + 1) capq); have HE5 := Lib.hid (HS.out.entry HSM.out (show g < 65536 by omega) HX.out 3 HV3.out HG3.out HMID.out hgrow4 hown4 hat4 ho5 hg5); clear hown4 hgrow4 hat4 ho5 hg5 hi hz0 hz1 hz2)
                | fail)
              all_goals (
                go_wp2_with fail
                go_roundw
                case rel =>
                  have h := HE5.out.1.congr (I' := idG mm (g + 1) L (ptU l' r t) (r, t)) (fun g' x => by rw [EI.out, ENP.out, EPT.out, EY.out]; exact idG_step mm g L (ptU l' r t) (r, t) hlt3 g' x)
                  rw [ENP.out, EPT.out, EKK.out] at h
                  exact ⟨g + 1, by omega, by go_num, h, HE5.out.2 _ _ _ (by decide) HKR.out⟩
                case measure => simp [intOf]; omega)
            · obtain rfl : g = mm := by omega
              have hgg : ¬ (g : Int) < (g : Int) := by omega
              have HS := Lib.hid (hs.congr (idG_end g L (ptU l' r t) (r, t)))
              have k4 := hs.box.cell (k := 4) rfl
              obtain ⟨Ap, cp, rfl⟩ := hs.pts.shape
              have hpl := ptU_len l' r t
              obtain ⟨pts, epts⟩ : ∃ p, p = ptU l' r t := ⟨_, rfl⟩
              rw [← epts] at HS hpl k4 ⊢
              have EPT := Lib.hid epts
              have hln : pts.length ≤ 1100 := by
                have h1 : r * l' ≤ 64 * 16 := Nat.mul_le_mul (by omega) hl16
                omega
              obtain ⟨kk, ekk⟩ : ∃ q, q = (r * l' + t) * g + g := ⟨_, rfl⟩
              rw [← ekk] at HS
              have EKK := Lib.hid ekk
              have HP := Lib.hid HS.out.pts
              have hsz := HS.out.below.size
              clear hs hkr hpl epts ekk
              go_wp2_with (at_builtin; obtain ⟨i0, hi, hz0, hz1, hz2⟩ := info_parts Try.infoPoint; refine wpList_append_own_at _ rfl _ _ 29 rfl W.heap.size 26 i0 _ 2 16 Try.underlying29 hi hz0 hz1 hz2 rfl (by decide) _ _ _ rfl (own_alloc' HP.out _) ⟨wr.heap.size, 0, none⟩ 1 1 [.int .i64 r, .int .i64 t] rfl rfl (World.news_of_block (cs := #[.int .i64 r, .int .i64 t]) (t := 26) (fr := (0, 0)) (heap_alloc_new wr _)) (by simp [Value.oneCell']) (by unfold maxLen; omega) (by omega) (by simp; omega) ?_; intro v' w3 hown' hgrow _ _; obtain ⟨gq, capq, rfl⟩ := own_succ2 hown'; have hb3 := Blk.kept_row (HS.out.box.alloc _) (own_alloc' HP.out _) (by decide) hgrow; have c4 := hb3.cell (k := 4) rfl; have f4 := hb3.frozen (k := 4); have HE := Lib.hid (HS.out.point 26 hgrow hown'); clear hown' hgrow hi hz0 hz1 hz2 hb3)
              go_roundw
              case rel =>
                have h := HE.out.1
                have e : pts ++ [(r, t)] = ptU l' r (t + 1) := by rw [EPT.out, ← ptU_step]
                have e2 : ptU l' r t ++ [(r, t)] = ptU l' r (t + 1) := by rw [← ptU_step]
                rw [e, EKK.out] at h
                try rw [e2] at h
                exact ⟨t + 1, by omega, by go_num, ⟨_, by rw [show (r * l' + (t + 1)) * g = (r * l' + t) * g + g from by rw [← Nat.add_assoc, Nat.succ_mul]]; exact h⟩, HE.out.2 _ _ _ (by decide) (by decide) HKR.out⟩
              case measure => simp [intOf]; omega
        · obtain rfl : t = l' := by omega
          have htt : ¬ (t : Int) < (t : Int) := by omega
          clear hs hkr
          go_wp2_with fail
          go_roundw
          case rel =>
            have h := HS.out
            rw [ptU_row] at h
            exact ⟨r + 1, by omega, by go_num, _, by rw [Nat.succ_mul]; exact h⟩
          case measure => simp [intOf]; omega
    · obtain rfl : r = n := by omega
      have hii : ¬ (r : Int) < (r : Int) := by omega
      rw [ptU_end] at HS
      clear hs
      go_wp2_with fail
      go_ret
      exact ⟨_, _, _, _, _, rfl, rfl, by rw [Int.toNat_natCast, Int.toNat_natCast]; exact HS.out.mono HB.out⟩
end Go.Proofs.Ytahaimecchdfeaa
