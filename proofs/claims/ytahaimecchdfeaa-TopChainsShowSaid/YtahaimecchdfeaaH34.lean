/-
  Texts of this claim, one after the other: what each proves is said at its head. No condition beyond those that its theorems name.
-/
import Derived.Test.YtahaimecchdfeaaProg
import Derived.Deep.DeepCutAuto
import Derived.Deep.RegionHeld3
import Derived.Laws.EntriesVeiled
import Derived.Lib.SliceRun
import Derived.Test.YtahaimecchdfeaaH01
import Derived.Test.YtahaimecchdfeaaH02
import Derived.Test.YtahaimecchdfeaaH03
import Derived.Test.YtahaimecchdfeaaH08
import Derived.Test.YtahaimecchdfeaaH09
import Derived.Test.YtahaimecchdfeaaH12
import Derived.Test.YtahaimecchdfeaaH17
import Derived.Test.YtahaimecchdfeaaH30
import Derived.Test.YtahaimecchdfeaaH31

/-
  Walk: Holds, for the formulas that occur.
-/
namespace Go.Proofs.Ytahaimecchdfeaa
open Go.RowKit

theorem Try.infoTruth : (Try.prog.info? 114).map (fun i => (i.zero, i.size, i.bytes)) = some (some (.slice none 0 0), 1, 24) := by kernel_rfl
theorem SemN.congr {L : Nat → Nat → Nat → Int} {F : Nat → Nat → Nat} {n l k : Nat} {Xs Xs' : Nat → Nat → Nat → Bool} {Z : Nat → Nat → Bool} {nd : Nd} (h : SemN L F n l Xs Z nd) (hk : nd.ok k) (e : ∀ j, j < k → Xs j = Xs' j) : SemN L F n l Xs' Z nd := by
  cases nd with
  | T => exact h
  | F => exact h
  | N x =>
    have h1 : Z = fun r t => !Xs x r t := h
    show Z = fun r t => !Xs' x r t
    rw [← e x hk]
    exact h1
  | C x y =>
    have h1 : (∃ m, Z = itB L n l (Xs x) (Xs y) m) ∧ ∀ r t, r < n → t < l → evB L n l 2 (inB (Xs x) (Xs y) Z) r t = Z r t := h
    show (∃ m, Z = itB L n l (Xs' x) (Xs' y) m) ∧ ∀ r t, r < n → t < l → evB L n l 2 (inB (Xs' x) (Xs' y) Z) r t = Z r t
    rw [← e x hk.1, ← e y hk.2]
    exact h1
theorem TruO.grown {w w1 : World} {g l n B q : Nat} {v : Value} {xs : List Value} {X : Nat → Nat → Bool} (h : TruO w g l n X) (hr : w.ownsRow B 114 1 v q xs) (hg : w.grownBy w1 v.ownBlock) : TruO w1 g l n X :=
  ⟨h.box.kept hg (h.box.ne_row' hr (by decide)), fun r hr' => (h.row r hr').kept hg ((h.row r hr').ne_row' hr (by decide))⟩
/-- The rows of the values. -/
def vrL (gs : Nat → Nat) (n i : Nat) : List Value := (List.range i).map fun k => Value.slice (some ⟨gs k, 0, none⟩) n n
theorem vrL_len (gs : Nat → Nat) (n i : Nat) : (vrL gs n i).length = i := by unfold vrL; simp
theorem vrL_get {gs : Nat → Nat} {n i k : Nat} (h : k < i) : (vrL gs n i)[k]? = some (.slice (some ⟨gs k, 0, none⟩) n n) := by unfold vrL; simp [h]
/-- The values of the nodes so far. -/
structure ValI (w W : World) (n l : Nat) (L : Nat → Nat → Nat → Int) (F : Nat → Nat → Nat) (nl : List Nd) (vv : Value) (i : Nat) (gs : Nat → Nat) (Xs : Nat → Nat → Nat → Bool) : Prop where
  low : Below w.heap.size w W
  own : W.ownsRow w.heap.size 114 1 vv i (vrL gs n i)
  tab : ∀ k, k < i → TruO W (gs k) l n (Xs k)
  sem : ∀ k nd, k < i → nl[k]? = some nd → SemN L F n l Xs (Xs k) nd
theorem ValI.below {w W W1 : World} {n l : Nat} {L : Nat → Nat → Nat → Int} {F : Nat → Nat → Nat} {nl : List Nd} {vv : Value} {i : Nat} {gs : Nat → Nat} {Xs : Nat → Nat → Nat → Bool} (h : ValI w W n l L F nl vv i gs Xs) (hb : Below W.heap.size W W1) : ValI w W1 n l L F nl vv i gs Xs :=
  ⟨below_trans h.low hb, own_keeps h.own (Keeps.of_below hb _), fun k hk => (h.tab k hk).below hb, h.sem⟩
theorem ValI.at {w W : World} {n l : Nat} {L : Nat → Nat → Nat → Int} {F : Nat → Nat → Nat} {nl : List Nd} {vv : Value} {i : Nat} {gs : Nat → Nat} {Xs : Nat → Nat → Nat → Bool} (h : ValI w W n l L F nl vv i gs Xs) {k : Nat} (hk : k < i) : ∃ b cap, vv = .slice (some ⟨b, 0, none⟩) i cap ∧ W.cell? ⟨b, k, none⟩ = some (.slice (some ⟨gs k, 0, none⟩) n n) := by
  obtain ⟨A, cap, rfl, hA⟩ := own_form' h.own
  obtain ⟨b, rfl, -, -, h0⟩ := hA k (by omega)
  exact ⟨b, cap, rfl, by rw [h0]; exact vrL_get hk⟩
theorem ValI.shape {w W : World} {n l : Nat} {L : Nat → Nat → Nat → Int} {F : Nat → Nat → Nat} {nl : List Nd} {vv : Value} {i : Nat} {gs : Nat → Nat} {Xs : Nat → Nat → Nat → Bool} (h : ValI w W n l L F nl vv i gs Xs) : ∃ A cap, vv = .slice A i cap := by
  obtain ⟨A, cap, rfl, -⟩ := own_form' h.own
  exact ⟨A, cap, rfl⟩
theorem ValI.push {w V w3 : World} {n l : Nat} {L : Nat → Nat → Nat → Int} {F : Nat → Nat → Nat} {nl : List Nd} {vv v' : Value} {i g : Nat} {gs : Nat → Nat} {Xs : Nat → Nat → Nat → Bool} {Z : Nat → Nat → Bool} {nd : Nd} {o : Obj} (h : ValI w V n l L F nl vv i gs Xs) (hok : NdsOk nl) (ht : TruO V g l n Z) (hnd : nl[i]? = some nd) (hs : SemN L F n l Xs Z nd)
    (hown : w3.ownsRow w.heap.size 114 1 v' (i + 1) (vrL gs n i ++ [.slice (some ⟨g, 0, none⟩) n n])) (hg : (V.alloc o).grownBy w3 vv.ownBlock) : ∃ gs' Xs', ValI w w3 n l L F nl v' (i + 1) gs' Xs' := by
  have hba := below_alloc V o
  have ho1 := own_alloc' h.own o
  refine ⟨fun k => if k = i then g else gs k, fun k => if k = i then Z else Xs k, below_append h.low rfl h.own hg, ?_, fun k hk => ?_, fun k nd' hk hnd' => ?_⟩
  · have e : vrL (fun k => if k = i then g else gs k) n (i + 1) = vrL gs n i ++ [.slice (some ⟨g, 0, none⟩) n n] := by
      unfold vrL
      rw [List.range_succ, List.map_append]
      congr 1
      · refine List.map_congr_left fun k hk => ?_
        have : k < i := List.mem_range.1 hk
        show Value.slice (some ⟨if k = i then g else gs k, 0, none⟩) n n = Value.slice (some ⟨gs k, 0, none⟩) n n
        rw [if_neg (by omega)]
      · simp
    rw [e]
    exact hown
  · by_cases e : k = i
    · subst e
      try dsimp only
      rw [if_pos rfl, if_pos rfl]
      exact (ht.below hba).grown ho1 hg
    · try dsimp only
      rw [if_neg e, if_neg e]
      exact ((h.tab k (by omega)).below hba).grown ho1 hg
  · have hne : ∀ j, j < i → Xs j = (fun k => if k = i then Z else Xs k) j := fun j hj => by
      try dsimp only
      rw [if_neg (by omega)]
    by_cases e : k = i
    · subst e
      rw [hnd] at hnd'
      injection hnd' with hnd'
      subst hnd'
      try dsimp only
      rw [if_pos rfl]
      exact hs.congr (hok k nd hnd) hne
    · try dsimp only
      rw [if_neg e]
      exact (h.sem k nd' (by omega) hnd').congr (hok k nd' hnd') (fun j hj => hne j (by omega))
/-- The value of a node whose rule is sought, and found. -/
def CmSt (w : World) (L : Nat → Nat → Nat → Int) (F : Nat → Nat → Nat) (n l : Nat) (Xs : Nat → Nat → Nat → Bool) (nd : Nd) (vv : Value) (k : Nat) : Prop :=
  (k ≤ 4 ∧ vv = .slice none 0 0) ∨ (4 < k ∧ ∃ g Z, vv = .slice (some ⟨g, 0, none⟩) n n ∧ TruO w g l n Z ∧ SemN L F n l Xs Z nd)
theorem CmSt.below {w w1 : World} {L : Nat → Nat → Nat → Int} {F : Nat → Nat → Nat} {n l : Nat} {Xs : Nat → Nat → Nat → Bool} {nd : Nd} {vv : Value} {k : Nat} (h : CmSt w L F n l Xs nd vv k) (hb : Below w.heap.size w w1) : CmSt w1 L F n l Xs nd vv k := by
  rcases h with h | ⟨h1, g, Z, e, h2, h3⟩
  · exact .inl h
  · exact .inr ⟨h1, g, Z, e, h2.below hb, h3⟩
theorem CmSt.next {w : World} {L : Nat → Nat → Nat → Int} {F : Nat → Nat → Nat} {n l : Nat} {Xs : Nat → Nat → Nat → Bool} {nd : Nd} {vv : Value} {k : Nat} (h : CmSt w L F n l Xs nd vv k) (hk : k ≠ 4) : CmSt w L F n l Xs nd vv (k + 1) := by
  rcases h with ⟨h1, e⟩ | ⟨h1, h2⟩
  · exact .inl ⟨by omega, e⟩
  · exact .inr ⟨by omega, h2⟩
theorem CmSt.shape {w : World} {L : Nat → Nat → Nat → Int} {F : Nat → Nat → Nat} {n l : Nat} {Xs : Nat → Nat → Nat → Bool} {nd : Nd} {vv : Value} {k : Nat} (h : CmSt w L F n l Xs nd vv k) : ∃ A m c, vv = .slice A m c := by
  rcases h with ⟨-, rfl⟩ | ⟨-, g, Z, rfl, -⟩
  · exact ⟨_, _, _, rfl⟩
  · exact ⟨_, _, _, rfl⟩
theorem rl_no {nd : Nd} (hp : nd.prop = true) : ∀ k, k < 9 → ((rlOp k : Int) == (nd.op : Int)) = false := by
  cases nd with
  | T => exact lt9 rfl rfl rfl rfl rfl rfl rfl rfl rfl
  | F => exact lt9 rfl rfl rfl rfl rfl rfl rfl rfl rfl
  | N x => exact lt9 rfl rfl rfl rfl rfl rfl rfl rfl rfl
  | C x y => cases hp
theorem rl_com (x y : Nat) : ∀ k, k < 9 → k ≠ 4 → ((rlOp k : Int) == ((Nd.C x y).op : Int)) = false :=
  lt9 (fun _ => rfl) (fun _ => rfl) (fun _ => rfl) (fun _ => rfl) (fun h => absurd rfl h) (fun _ => rfl) (fun _ => rfl) (fun _ => rfl) (fun _ => rfl)
theorem rl_yes {nd : Nd} (hp : nd.prop = false) {k : Nat} (hk : k = 4) : ((rlOp k : Int) == (nd.op : Int)) = true := by
  subst hk
  cases nd with
  | C x y => rfl
  | _ => cases hp
theorem rl_com' {nd : Nd} (hp : nd.prop = false) : ∀ k, k < 9 → k ≠ 4 → ((rlOp k : Int) == (nd.op : Int)) = false := by
  cases nd with
  | C x y => exact rl_com x y
  | _ => cases hp
theorem prop_ux {nd : Nd} (hp : nd.prop = false) : nd.ux = true := by
  cases nd with
  | C x y => rfl
  | _ => cases hp
theorem CmSt.done {w : World} {L : Nat → Nat → Nat → Int} {F : Nat → Nat → Nat} {n l : Nat} {Xs : Nat → Nat → Nat → Bool} {nd : Nd} {vv : Value} (h : CmSt w L F n l Xs nd vv 9) : ∃ g Z, vv = .slice (some ⟨g, 0, none⟩) n n ∧ TruO w g l n Z ∧ SemN L F n l Xs Z nd := by
  rcases h with ⟨h, -⟩ | ⟨-, h⟩
  · omega
  · exact h
theorem rule_com (w : World) (bc l n : Nat) (L : Nat → Nat → Nat → Int) (F : Nat → Nat → Nat) (nd : Nd) (Xs : Nat → Nat → Nat → Bool) (Ax Ay : Option Addr) (nx cx ny cy : Nat) (hp : nd.prop = false) (hC : ChkR w bc l n L F) (hn : n ≤ 64) (hl : l ≤ 16)
    (hx : TruR w (.slice Ax nx cx) l n (Xs nd.x)) (hy : TruR w (.slice Ay ny cy) l n (Xs nd.y)) :
    Calls Try.prog 115 #[.pointer (some ⟨bc, 0, none⟩), .agg nd.V.toArray, .slice Ax nx cx, .slice Ay ny cy] w fun e w' => ∃ g Z, e = .returned (.slice (some ⟨g, 0, none⟩) n n) ∧ TruO w' g l n Z ∧ SemN L F n l Xs Z nd ∧ w.heap.size ≤ g ∧ Below w.heap.size w w' := by
  cases nd with
  | C a b => exact rule_common w bc l n L F a b Xs Ax Ay nx cx ny cy hC hn hl hx hy
  | _ => cases hp
/-- What Holds leaves. -/
def HldPost (w : World) (n l : Nat) (L : Nat → Nat → Nat → Int) (F : Nat → Nat → Nat) (nl : List Nd) (e : Ending) (w' : World) : Prop :=
  ∃ g Xs, e = .returned (.tuple #[.slice (some ⟨g, 0, none⟩) n n, .int .i64 0]) ∧ TruO w' g l n (Xs (nl.length - 1)) ∧ (∀ k nd, nl[k]? = some nd → SemN L F n l Xs (Xs k) nd) ∧ Below w.heap.size w w'
set_option maxHeartbeats 8000000 in
set_option maxRecDepth 100000 in
theorem Holds_any (x fv : Value) (nl : List Nd) (l n : Nat) (T : Nat → Nat) (m : Nat → Nat → Nat) (L : Nat → Nat → Nat → Int) (K : Nat → Nat) (F : Nat → Nat → Nat) (w : World) (h : SysR w x 2 1 l n T m L K F) (hc : chkE 2 1 l n T m K F = 0) (hf : NdO w 0 fv nl) (hcan : Can nl)
    (hfr : orN Nd.fr nl 0 = 8) (hag : orN Nd.g nl 0 < 2 ^ 2) (hfa : orN facM nl 0 < 2 ^ 1) :
    Calls Try.prog 36 #[x, fv] w (HldPost w n l L F nl) := by
  obtain ⟨-, -, hl, hn, -, -, hT, hF⟩ := chkE_ok hc
  have hl16 : l ≤ 16 := by omega
  have hF256 : ∀ r t, r < n → t < l → F r t < 256 := fun r t hr ht => Nat.lt_trans (hF r hr t (by have := (hT r hr).2.1; omega)) (by decide)
  have hS := h
  obtain ⟨A, c, rfl, hR⟩ := h
  have HSY := Lib.hid (fun X (hX : Below w.heap.size w X) => (show SysR X (.agg #[.int .i64 2, .int .i64 1, .int .i64 l, .slice A n c]) 2 1 l n T m L K F from ⟨A, c, rfl, hR.below hX⟩))
  have HCK := Lib.hid (fun X (hX : Below w.heap.size w X) => by
    have := rCheckS_any _ 2 1 l n T m L K F X (HSY.out X hX) (by omega)
    rw [hc] at this
    exact this)
  have HNC := Lib.hid (fun X (hX : Below w.heap.size w X) => newCheck_any _ l n T m L K F X (HSY.out X hX) hc)
  have HFC := Lib.hid (fun X (hX : Below w.heap.size w X) => foCheck_any fv nl 0 X (hf.below hX) hcan.ok hcan.pos hcan.len)
  have HFR : Hid (∀ X (hX : Below w.heap.size w X), Calls Try.prog 75 #[fv] X fun e w' => e = .returned (.int .i64 8) ∧ Below X.heap.size X w') := Lib.hid (fun X hX => by
    have := Frags_any fv nl X (hf.below hX) hcan
    rw [hfr] at this
    exact this)
  have HFI : Hid (∀ X (hX : Below w.heap.size w X), Calls Try.prog 76 #[fv, .int .i64 2, .int .i64 1] X fun e w' => e = .returned (.bool true) ∧ Below X.heap.size X w') := Lib.hid (fun X hX => Fits_any fv nl 2 1 X (hf.below hX) hcan (by decide) (by decide) hag hfa)
  have HCP := Lib.hid (fun X (hX : Below w.heap.size w X) => Compact_any fv nl X (hf.below hX) hcan)
  have HOK := Lib.hid hcan.ok
  have hpos := hcan.pos
  have hlen := hcan.len
  have HF256 := Lib.hid hF256
  obtain ⟨Af, cf, rfl⟩ := hf.shape
  obtain ⟨N, eN⟩ : ∃ N, N = nl.length := ⟨_, rfl⟩
  rw [← eN] at HFC HFR HFI HCP hpos hlen ⊢
  have HN := Lib.hid eN
  have hand : bits .andNot .i64 8 271 = 0 := by decide
  have hnil : ∀ (w : World) (a : Option Addr) (n c n' c' : Nat), (binOp .eql 114 (.slice a n c) (.slice none n' c')).run Try.prog w = .ok (.bool a.isNone) w := fun w a n c n' c' => Lib.run_eql_slice_nil w _ _ a n c n' c' Try.underlying114
  have HB := Lib.hid (below_alloc w (.cells #[.int .i64 2, .int .i64 1, .int .i64 l, .slice A n c] 24))
  have hbk := Blk.new w #[.int .i64 2, .int .i64 1, .int .i64 l, .slice A n c] 24
  have d0 := hbk.cell (k := 0) rfl
  have d1 := hbk.cell (k := 1) rfl
  have d2 := hbk.cell (k := 2) rfl
  have d3 := hbk.cell (k := 3) rfl
  have HP : Hid (∀ (b : Nat) (w' : World) (Xs : Nat → Nat → Nat → Bool), TruO w' b l n (Xs (nl.length - 1)) → (∀ k nd, nl[k]? = some nd → SemN L F n l Xs (Xs k) nd) → Below w.heap.size w w' → HldPost w n l L F nl (.returned (.tuple #[.slice (some ⟨b, 0, none⟩) n n, .int .i64 0])) w') := Lib.hid fun b w' Xs h1 h2 h3 => ⟨b, Xs, rfl, h1, h2, h3⟩
  generalize HldPost w n l L F nl = PP at HP ⊢
  clear hbk hS hR hc hf hcan hfr hag hfa hl hT hF hF256 eN
  go_enter Try.func36, Try.ntmps36
  go_upto_region 1 with (fail)
  generalize w.alloc (.cells #[.int .i64 2, .int .i64 1, .int .i64 l, .slice A n c] 24) = W at HB d0 d1 d2 d3 ⊢
  go_upto_region 2 with (go_at_call 73; refine (HCK.out _ HB.out).mono ?_; rintro e w1 ⟨rfl, hb1⟩; replace d0 := cell_below hb1 d0; replace d1 := cell_below hb1 d1; replace d2 := cell_below hb1 d2; replace d3 := cell_below hb1 d3; replace HB := Lib.hid (below_trans HB.out hb1); clear hb1)
  go_upto_region 5 with (go_at_call 74; refine (HFC.out _ HB.out).mono ?_; rintro e w2 ⟨rfl, hb1⟩; replace d0 := cell_below hb1 d0; replace d1 := cell_below hb1 d1; replace d2 := cell_below hb1 d2; replace d3 := cell_below hb1 d3; replace HB := Lib.hid (below_trans HB.out hb1); clear hb1)
  go_upto_region 8 with (go_at_call 75; refine (HFR.out _ HB.out).mono ?_; rintro e w3 ⟨rfl, hb1⟩; replace d0 := cell_below hb1 d0; replace d1 := cell_below hb1 d1; replace d2 := cell_below hb1 d2; replace d3 := cell_below hb1 d3; replace HB := Lib.hid (below_trans HB.out hb1); clear hb1)
  go_upto_region 11 with (go_at_call 76; refine (HFI.out _ HB.out).mono ?_; rintro e w4 ⟨rfl, hb1⟩; replace d0 := cell_below hb1 d0; replace d1 := cell_below hb1 d1; replace d2 := cell_below hb1 d2; replace d3 := cell_below hb1 d3; replace HB := Lib.hid (below_trans HB.out hb1); clear hb1)
  clear hand HCK HFC HFR HFI
  go_upto_region 12 with (go_at_call 77; refine (HNC.out _ HB.out).mono ?_; rintro e w5 ⟨bc, rfl, hC, hb1⟩; replace HB := Lib.hid (below_trans HB.out hb1); have HC := Lib.hid hC; clear hb1 hC)
  clear d0 d1 d2 d3 HNC
  go_upto_region 14 with (go_at_call 78; refine (HCP.out _ HB.out).mono ?_; rintro e w6 ⟨v, rfl, ho, hb1⟩; obtain ⟨A1, c1, rfl⟩ := ho.shape; replace HB := Lib.hid (below_trans HB.out hb1); replace HC := Lib.hid (HC.out.below hb1); have HO := Lib.hid ho; clear hb1 ho)
  rw [← HN.out]
  rw [← HN.out] at HO
  clear HCP
  have HI0 := Lib.hid (show ValI w6 w6 n l L F nl (.slice none 0 0) 0 (fun _ => 0) (fun _ _ _ => false) from ⟨Below.refl _ _, World.ownsRow_nil _ _ _ _, fun k hk => absurd hk (Nat.not_lt_zero k), fun k nd hk => absurd hk (Nat.not_lt_zero k)⟩)
  go_loopw [9, 43] (fun vv iv wr => ∃ (i : Nat) (gs : Nat → Nat) (Xs : Nat → Nat → Nat → Bool), i ≤ N ∧ iv = .int .i64 i ∧ ValI w6 wr n l L F nl vv i gs Xs) (fun _ iv _ => N - (intOf iv).toNat)
  case atStart => exact ⟨0, _, _, Nat.zero_le _, rfl, HI0.out⟩
  case round =>
    clear HI0
    obtain ⟨i, gs, Xs, hi, rfl, hv⟩ := hrel
    have HV := Lib.hid hv
    obtain ⟨Av, cv, rfl⟩ := hv.shape
    by_cases hlt : i < N
    · have hin : (i : Int) < (N : Int) := by omega
      obtain ⟨nd, hnd⟩ : ∃ nd, nl[i]? = some nd := ⟨_, List.getElem?_eq_getElem (by rw [← HN.out]; exact hlt)⟩
      have HND := Lib.hid hnd
      obtain ⟨b, cap, ev, hcl⟩ := (HO.out.below HV.out.low).at hnd
      injection ev with eA en ec
      subst eA ec
      obtain ⟨c0, c1', c2, c3, c4, c5⟩ := hcl
      have HKO := Lib.hid (HOK.out i nd hnd)
      clear hv hnd en
      go_upto_region 16 with (fail)
      have hba := below_alloc wr (.cells #[.int .i64 nd.op, .int .i64 0, .int .i64 0, .int .i64 nd.g, .int .i64 nd.x, .int .i64 nd.y] 108)
      have hbn := Blk.new wr #[.int .i64 nd.op, .int .i64 0, .int .i64 0, .int .i64 nd.g, .int .i64 nd.x, .int .i64 nd.y] 108
      obtain ⟨V, eV⟩ : ∃ V, V = wr.alloc (.cells #[.int .i64 nd.op, .int .i64 0, .int .i64 0, .int .i64 nd.g, .int .i64 nd.x, .int .i64 nd.y] 108) := ⟨_, rfl⟩
      rw [← eV] at hba hbn ⊢
      obtain ⟨nb, enb⟩ : ∃ b, b = wr.heap.size := ⟨_, rfl⟩
      rw [← enb] at hbn ⊢
      replace HV := Lib.hid (HV.out.below hba)
      have HNB := Lib.hid hbn
      clear hba hbn eV enb c0 c1' c2 c3 c4 c5
      by_cases hi0 : i = 0
      · subst hi0
        have hp : nd.prop = true := by
          have := HKO.out
          cases nd with
          | C x y => exact absurd this.1 (Nat.not_lt_zero x)
          | _ => rfl
        have hux : nd.ux = false := by
          have := HKO.out
          cases nd with
          | C x y => exact absurd this.1 (Nat.not_lt_zero x)
          | N x => exact absurd this (Nat.not_lt_zero x)
          | _ => rfl
        have HUX := Lib.hid hux
        have HPR := Lib.hid hp
        clear hp hux
        go_upto_region 20 with (fail)
        have HTX : Hid (nd.ux = true → TruR V (.slice none 0 0) l n (Xs nd.x)) := Lib.hid fun h => by rw [HUX.out] at h; cases h
        clear HUX HKO
        go_upto_region 21 with (go_at_call 79; refine (rules_any _).mono ?_; rintro e w7 ⟨rfl, hr, hb1⟩; have HR := Lib.hid hr; replace HV := Lib.hid (HV.out.below hb1); replace HNB := Lib.hid (HNB.out.below hb1); replace HTX := Lib.hid (fun h => (HTX.out h).below hb1); clear hr hb1)
        obtain ⟨rb, erb⟩ : ∃ b, b = V.heap.size := ⟨_, rfl⟩
        rw [← erb] at HR ⊢
        clear erb
        go_loopw [14, 62] (fun vv kv wr => ∃ k : Nat, k ≤ 9 ∧ kv = .int .i64 k ∧ vv = .slice none 0 0 ∧ Below w7.heap.size w7 wr) (fun _ kv _ => 9 - (intOf kv).toNat)
        case atStart => exact ⟨0, by decide, rfl, rfl, Below.refl _ _⟩
        case round =>
          obtain ⟨k, hk, rfl, rfl, hb⟩ := hrel
          have HB := Lib.hid hb
          by_cases hk9 : k < 9
          · have hkk : (k : Int) < 9 := by omega
            have r0 := (HR.out.below hb).cell (rlA_op k hk9)
            have r1 := (HR.out.below hb).cell (rlA_fn k hk9)
            have hq := rl_no HPR.out k hk9
            obtain ⟨ok, eok⟩ : ∃ o, o = rlOp k := ⟨_, rfl⟩
            obtain ⟨fk, efk⟩ : ∃ o, o = rlFn k := ⟨_, rfl⟩
            rw [← eok] at r0 hq
            rw [← efk] at r1
            clear hb eok efk
            go_upto_region 23 with (fail)
            have hba := below_alloc wr (.cells #[.int .i64 ok, .func (.func fk) #[] #[]] 119)
            have hbr := Blk.new wr #[.int .i64 ok, .func (.func fk) #[] #[]] 119
            obtain ⟨W3, eW3⟩ : ∃ V, V = wr.alloc (.cells #[.int .i64 ok, .func (.func fk) #[] #[]] 119) := ⟨_, rfl⟩
            rw [← eW3] at hba hbr ⊢
            obtain ⟨qb, eqb⟩ : ∃ b, b = wr.heap.size := ⟨_, rfl⟩
            rw [← eqb] at hbr ⊢
            have q0 := hbr.cell (k := 0) rfl
            have n0 := (HNB.out.below (below_trans HB.out hba)).cell (k := 0) rfl
            replace HB := Lib.hid (below_trans HB.out hba)
            clear hba hbr eW3 eqb r0 r1
            go_wp2_with fail
            go_roundw
            case rel => exact ⟨k + 1, by omega, by go_num, rfl, HB.out⟩
            case measure => simp [intOf]; omega
          · obtain rfl : k = 9 := by omega
            have hkk : ¬ ((9 : Nat) : Int) < 9 := by omega
            have hbn := HNB.out.below hb
            have n0 := hbn.cell (k := 0) rfl
            have n1 := hbn.cell (k := 1) rfl
            have n2 := hbn.cell (k := 2) rfl
            have n3 := hbn.cell (k := 3) rfl
            have n4 := hbn.cell (k := 4) rfl
            have n5 := hbn.cell (k := 5) rfl
            replace HV := Lib.hid (HV.out.below hb)
            have HCB := Lib.hid (fun Ay ny cy => boolean_any wr bc l n L F nd Xs none Ay 0 0 ny cy (HC.out.below HV.out.low) hn hl16 HF256.out HPR.out (fun h => (HTX.out h).below hb))
            unfold Nd.V at HCB
            clear hb hbn HTX HR HNB
            go_upto_region 28 with (go_at_call 80; refine (HCB.out _ _ _).mono ?_; rintro e w8 ⟨g, Z, rfl, hto, hsm, -, hb1⟩; have HTO := Lib.hid hto; have HSM := Lib.hid hsm; have HV8 := Lib.hid (HV.out.below hb1); clear hto hsm hb1)
            clear n0 n1 n2 n3 n4 n5 HCB HV
            have hsz := HV8.out.low.size
            go_wp2_with (at_builtin; obtain ⟨i0, hi, hz0, hz1, hz2⟩ := info_parts Try.infoTruth; refine wpList_append_own_at _ rfl _ _ 113 rfl w6.heap.size 114 i0 _ 1 24 Try.underlying113 hi hz0 hz1 hz2 rfl (by decide) _ _ _ rfl (own_alloc' HV8.out.own _) ⟨w8.heap.size, 0, none⟩ 1 1 [.slice (some ⟨g, 0, none⟩) n n] rfl rfl (World.news_of_block (cs := #[.slice (some ⟨g, 0, none⟩) n n]) (t := 114) (fr := (0, 0)) (heap_alloc_new w8 _)) (by simp [Value.oneCell']) (by unfold maxLen; omega) (by omega) (by simp; omega) ?_; intro v' w9 hown' hgrow _ _; have HPU := Lib.hid (HV8.out.push HOK.out HTO.out HND.out HSM.out hown' hgrow); clear hown' hgrow hi hz0 hz1 hz2)
            obtain ⟨gs', Xs', hpu⟩ := HPU.out
            have HPV := Lib.hid hpu
            clear hpu HPU
            go_roundw
            case rel => exact ⟨_, gs', Xs', by omega, by go_num, HPV.out⟩
            case measure => simp [intOf]; omega
      · have hi1 : (0 : Int) < (i : Int) := by omega
        have hi1' : 0 < i := Nat.pos_of_ne_zero hi0
        have hx : nd.x < i := by
          have := HKO.out
          cases nd with
          | C x y => exact this.1
          | N x => exact this
          | _ => exact hi1'
        have hy : nd.y < i := by
          have := HKO.out
          cases nd with
          | C x y => exact this.2
          | _ => exact hi1'
        obtain ⟨vb, cap, ev, vx⟩ := HV.out.at hx
        obtain ⟨vb', cap', ev', vy⟩ := HV.out.at hy
        injection ev with eA en ec
        subst eA ec
        injection ev' with eA en' ec
        injection eA with eA
        injection eA with eA _
        subst eA
        have hx1 : (nd.x : Int) < (i : Int) := by omega
        have hy1 : (nd.y : Int) < (i : Int) := by omega
        have n4 := HNB.out.cell (k := 4) rfl
        have n5 := HNB.out.cell (k := 5) rfl
        have HTX := Lib.hid (HV.out.tab nd.x hx)
        have HTY := Lib.hid (HV.out.tab nd.y hy)
        clear en en' ec hx hy hi0 hi1'
        go_upto_region 18 with (fail)
        go_quiet (fail)
        obtain ⟨V9, eV9⟩ : ∃ V9, V9 = V.drewN nq := ⟨_, rfl⟩
        have hbq : Below V.heap.size V V9 := by rw [eV9]; exact below_drewN (Below.refl _ _) nq
        rw [← eV9]
        clear eV9 n4 n5 vx vy hx1 hy1
        replace HV := Lib.hid (HV.out.below hbq)
        replace HNB := Lib.hid (HNB.out.below hbq)
        replace HTX := Lib.hid (show nd.ux = true → TruR V9 (.slice (some ⟨gs nd.x, 0, none⟩) n n) l n (Xs nd.x) from fun _ => ⟨_, rfl, HTX.out.below hbq⟩)
        replace HTY := Lib.hid (show TruR V9 (.slice (some ⟨gs nd.y, 0, none⟩) n n) l n (Xs nd.y) from ⟨_, rfl, HTY.out.below hbq⟩)
        clear hbq HKO
        by_cases hp : nd.prop = true
        · have HPR := Lib.hid hp
          clear hp HTY
          go_upto_region 21 with (go_at_call 79; refine (rules_any _).mono ?_; rintro e w7 ⟨rfl, hr, hb1⟩; have HR := Lib.hid hr; replace HV := Lib.hid (HV.out.below hb1); replace HNB := Lib.hid (HNB.out.below hb1); replace HTX := Lib.hid (fun h => (HTX.out h).below hb1); clear hr hb1)
          obtain ⟨rb, erb⟩ : ∃ b, b = V9.heap.size := ⟨_, rfl⟩
          rw [← erb] at HR ⊢
          clear erb
          go_loopw [14, 62] (fun vv kv wr => ∃ k : Nat, k ≤ 9 ∧ kv = .int .i64 k ∧ vv = .slice none 0 0 ∧ Below w7.heap.size w7 wr) (fun _ kv _ => 9 - (intOf kv).toNat)
          case atStart => exact ⟨0, by decide, rfl, rfl, Below.refl _ _⟩
          case round =>
            obtain ⟨k, hk, rfl, rfl, hb⟩ := hrel
            have HB := Lib.hid hb
            by_cases hk9 : k < 9
            · have hkk : (k : Int) < 9 := by omega
              have r0 := (HR.out.below hb).cell (rlA_op k hk9)
              have r1 := (HR.out.below hb).cell (rlA_fn k hk9)
              have hq := rl_no HPR.out k hk9
              obtain ⟨ok, eok⟩ : ∃ o, o = rlOp k := ⟨_, rfl⟩
              obtain ⟨fk, efk⟩ : ∃ o, o = rlFn k := ⟨_, rfl⟩
              rw [← eok] at r0 hq
              rw [← efk] at r1
              clear hb eok efk
              go_upto_region 23 with (fail)
              have hba := below_alloc wr (.cells #[.int .i64 ok, .func (.func fk) #[] #[]] 119)
              have hbr := Blk.new wr #[.int .i64 ok, .func (.func fk) #[] #[]] 119
              obtain ⟨W3, eW3⟩ : ∃ V, V = wr.alloc (.cells #[.int .i64 ok, .func (.func fk) #[] #[]] 119) := ⟨_, rfl⟩
              rw [← eW3] at hba hbr ⊢
              obtain ⟨qb, eqb⟩ : ∃ b, b = wr.heap.size := ⟨_, rfl⟩
              rw [← eqb] at hbr ⊢
              have q0 := hbr.cell (k := 0) rfl
              have n0 := (HNB.out.below (below_trans HB.out hba)).cell (k := 0) rfl
              replace HB := Lib.hid (below_trans HB.out hba)
              clear hba hbr eW3 eqb r0 r1
              go_wp2_with fail
              go_roundw
              case rel => exact ⟨k + 1, by omega, by go_num, rfl, HB.out⟩
              case measure => simp [intOf]; omega
            · obtain rfl : k = 9 := by omega
              have hkk : ¬ ((9 : Nat) : Int) < 9 := by omega
              have hbn := HNB.out.below hb
              have n0 := hbn.cell (k := 0) rfl
              have n1 := hbn.cell (k := 1) rfl
              have n2 := hbn.cell (k := 2) rfl
              have n3 := hbn.cell (k := 3) rfl
              have n4 := hbn.cell (k := 4) rfl
              have n5 := hbn.cell (k := 5) rfl
              replace HV := Lib.hid (HV.out.below hb)
              have HCB := Lib.hid (fun Ay ny cy => boolean_any wr bc l n L F nd Xs (some ⟨gs nd.x, 0, none⟩) Ay n n ny cy (HC.out.below HV.out.low) hn hl16 HF256.out HPR.out (fun h => (HTX.out h).below hb))
              unfold Nd.V at HCB
              clear hb hbn HTX HR HNB
              go_upto_region 28 with (go_at_call 80; refine (HCB.out _ _ _).mono ?_; rintro e w8 ⟨g, Z, rfl, hto, hsm, -, hb1⟩; have HTO := Lib.hid hto; have HSM := Lib.hid hsm; have HV8 := Lib.hid (HV.out.below hb1); clear hto hsm hb1)
              clear n0 n1 n2 n3 n4 n5 HCB HV
              have hsz := HV8.out.low.size
              go_wp2_with (at_builtin; obtain ⟨i0, hi, hz0, hz1, hz2⟩ := info_parts Try.infoTruth; refine wpList_append_own_at _ rfl _ _ 113 rfl w6.heap.size 114 i0 _ 1 24 Try.underlying113 hi hz0 hz1 hz2 rfl (by decide) _ _ _ rfl (own_alloc' HV8.out.own _) ⟨w8.heap.size, 0, none⟩ 1 1 [.slice (some ⟨g, 0, none⟩) n n] rfl rfl (World.news_of_block (cs := #[.slice (some ⟨g, 0, none⟩) n n]) (t := 114) (fr := (0, 0)) (heap_alloc_new w8 _)) (by simp [Value.oneCell']) (by unfold maxLen; omega) (by omega) (by simp; omega) ?_; intro v' w9 hown' hgrow _ _; have HPU := Lib.hid (HV8.out.push HOK.out HTO.out HND.out HSM.out hown' hgrow); clear hown' hgrow hi hz0 hz1 hz2)
              obtain ⟨gs', Xs', hpu⟩ := HPU.out
              have HPV := Lib.hid hpu
              clear hpu HPU
              go_roundw
              case rel => exact ⟨_, gs', Xs', by omega, by go_num, HPV.out⟩
              case measure => simp [intOf]; omega
        · have HPR := Lib.hid (show nd.prop = false by simpa using hp)
          clear hp
          go_upto_region 21 with (go_at_call 79; refine (rules_any _).mono ?_; rintro e w7 ⟨rfl, hr, hb1⟩; have HR := Lib.hid hr; replace HV := Lib.hid (HV.out.below hb1); replace HNB := Lib.hid (HNB.out.below hb1); replace HTX := Lib.hid (fun h => (HTX.out h).below hb1); replace HTY := Lib.hid (HTY.out.below hb1); clear hr hb1)
          obtain ⟨rb, erb⟩ : ∃ b, b = V9.heap.size := ⟨_, rfl⟩
          rw [← erb] at HR ⊢
          clear erb
          go_loopw [14, 62] (fun vv kv wr => ∃ k : Nat, k ≤ 9 ∧ kv = .int .i64 k ∧ CmSt wr L F n l Xs nd vv k ∧ Below w7.heap.size w7 wr) (fun _ kv _ => 9 - (intOf kv).toNat)
          case atStart => exact ⟨0, by decide, rfl, .inl ⟨by decide, rfl⟩, Below.refl _ _⟩
          case round =>
            obtain ⟨k, hk, rfl, hcm, hb⟩ := hrel
            have HB := Lib.hid hb
            obtain ⟨Aq, mq, cq, rfl⟩ := hcm.shape
            have HCM := Lib.hid hcm
            clear hcm
            by_cases hk9 : k < 9
            · have hkk : (k : Int) < 9 := by omega
              have r0 := (HR.out.below hb).cell (rlA_op k hk9)
              have r1 := (HR.out.below hb).cell (rlA_fn k hk9)
              by_cases hk4 : k = 4
              · have hq : (((rlOp k : Nat) : Int) == (nd.op : Int)) = true := rl_yes HPR.out hk4
                have hfk : rlFn k = 115 := by rw [hk4]; rfl
                rw [hfk] at r1
                obtain ⟨ok, eok⟩ : ∃ o, o = rlOp k := ⟨_, rfl⟩
                rw [← eok] at r0 hq
                have HK4 := Lib.hid hk4
                clear hb eok hk4 hfk
                go_upto_region 23 with (fail)
                have hba := below_alloc wr (.cells #[.int .i64 ok, .func (.func 115) #[] #[]] 119)
                have hbr := Blk.new wr #[.int .i64 ok, .func (.func 115) #[] #[]] 119
                obtain ⟨W3, eW3⟩ : ∃ V, V = wr.alloc (.cells #[.int .i64 ok, .func (.func 115) #[] #[]] 119) := ⟨_, rfl⟩
                rw [← eW3] at hba hbr ⊢
                obtain ⟨qb, eqb⟩ : ∃ b, b = wr.heap.size := ⟨_, rfl⟩
                rw [← eqb] at hbr ⊢
                have q0 := hbr.cell (k := 0) rfl
                have n0 := (HNB.out.below (below_trans HB.out hba)).cell (k := 0) rfl
                have q1 := hbr.cell (k := 1) rfl
                replace HB := Lib.hid (below_trans HB.out hba)
                have hbn := HNB.out.below HB.out
                have n1 := hbn.cell (k := 1) rfl
                have n2 := hbn.cell (k := 2) rfl
                have n3 := hbn.cell (k := 3) rfl
                have n4 := hbn.cell (k := 4) rfl
                have n5 := hbn.cell (k := 5) rfl
                have HCB := Lib.hid (rule_com W3 bc l n L F nd Xs _ _ _ _ _ _ HPR.out (HC.out.below (HV.out.below HB.out).low) hn hl16 ((HTX.out (prop_ux HPR.out)).below HB.out) (HTY.out.below HB.out))
                unfold Nd.V at HCB
                clear hba hbr eW3 eqb r0 r1 hbn
                go_wp2_with (go_at_call 115; refine HCB.out.mono ?_; rintro e w8 ⟨g, Z, rfl, hto, hsm, -, hb1⟩; have HTO := Lib.hid hto; have HSM := Lib.hid hsm; have HB8 := Lib.hid (below_trans HB.out hb1); clear hto hsm hb1)
                go_roundw
                case rel => exact ⟨k + 1, by omega, by go_num, .inr ⟨by have := HK4.out; omega, g, Z, rfl, HTO.out, HSM.out⟩, HB8.out⟩
                case measure => simp [intOf]; omega
              · have hq := rl_com' HPR.out k hk9 hk4
                have HK4 := Lib.hid hk4
                obtain ⟨ok, eok⟩ : ∃ o, o = rlOp k := ⟨_, rfl⟩
                obtain ⟨fk, efk⟩ : ∃ o, o = rlFn k := ⟨_, rfl⟩
                rw [← eok] at r0 hq
                rw [← efk] at r1
                clear hb eok efk hk4
                go_upto_region 23 with (fail)
                have hba := below_alloc wr (.cells #[.int .i64 ok, .func (.func fk) #[] #[]] 119)
                have hbr := Blk.new wr #[.int .i64 ok, .func (.func fk) #[] #[]] 119
                obtain ⟨W3, eW3⟩ : ∃ V, V = wr.alloc (.cells #[.int .i64 ok, .func (.func fk) #[] #[]] 119) := ⟨_, rfl⟩
                rw [← eW3] at hba hbr ⊢
                obtain ⟨qb, eqb⟩ : ∃ b, b = wr.heap.size := ⟨_, rfl⟩
                rw [← eqb] at hbr ⊢
                have q0 := hbr.cell (k := 0) rfl
                have n0 := (HNB.out.below (below_trans HB.out hba)).cell (k := 0) rfl
                have HCN := Lib.hid ((HCM.out.below hba).next HK4.out)
                replace HB := Lib.hid (below_trans HB.out hba)
                clear hba hbr eW3 eqb r0 r1
                go_wp2_with fail
                go_roundw
                case rel => exact ⟨k + 1, by omega, by go_num, HCN.out, HB.out⟩
                case measure => simp [intOf]; omega
            · obtain rfl : k = 9 := by omega
              have hkk : ¬ ((9 : Nat) : Int) < 9 := by omega
              obtain ⟨g, Z, ev, hto, hsm⟩ := HCM.out.done
              have ev := ev.symm
              injection ev with eA em ec
              subst eA em ec
              have HTO := Lib.hid hto
              have HSM := Lib.hid hsm
              have HV8 := Lib.hid (HV.out.below hb)
              have hsz := HV8.out.low.size
              clear hb HTX HTY HR HNB HCM hto hsm HV
              go_wp2_with (at_builtin; obtain ⟨i0, hi, hz0, hz1, hz2⟩ := info_parts Try.infoTruth; refine wpList_append_own_at _ rfl _ _ 113 rfl w6.heap.size 114 i0 _ 1 24 Try.underlying113 hi hz0 hz1 hz2 rfl (by decide) _ _ _ rfl (own_alloc' HV8.out.own _) ⟨wr.heap.size, 0, none⟩ 1 1 [.slice (some ⟨g, 0, none⟩) n n] rfl rfl (World.news_of_block (cs := #[.slice (some ⟨g, 0, none⟩) n n]) (t := 114) (fr := (0, 0)) (heap_alloc_new wr _)) (by simp [Value.oneCell']) (by unfold maxLen; omega) (by omega) (by simp; omega) ?_; intro v' w9 hown' hgrow _ _; have HPU := Lib.hid (HV8.out.push HOK.out HTO.out HND.out HSM.out hown' hgrow); clear hown' hgrow hi hz0 hz1 hz2)
              obtain ⟨gs', Xs', hpu⟩ := HPU.out
              have HPV := Lib.hid hpu
              clear hpu HPU
              go_roundw
              case rel => exact ⟨_, gs', Xs', by omega, by go_num, HPV.out⟩
              case measure => simp [intOf]; omega
    · obtain rfl : i = N := by omega
      have hin : ¬ (i : Int) < (i : Int) := by omega
      have hw1 : IntKind.i64.wrap ((i : Int) - 1) = ((i - 1 : Nat) : Int) := by rw [IntKind.wrap_i64]; omega
      have hlt1 : ((i - 1 : Nat) : Int) < (i : Int) := by omega
      obtain ⟨vb, cap, ev, vx⟩ := hv.at (k := i - 1) (by omega)
      injection ev with eA en ec
      subst eA ec
      have HPP := Lib.hid (HP.out (gs (i - 1)) wr Xs (by rw [← HN.out]; exact hv.tab (i - 1) (by omega)) (fun k nd hk => hv.sem k nd (by rw [HN.out]; exact (List.getElem?_eq_some_iff.1 hk).1) hk) (below_trans HB.out hv.low))
      clear hv en hlt
      go_wp2_with fail
      exact HPP.out
end Go.Proofs.Ytahaimecchdfeaa
