/-
  Walks of layer 54: choices, crashed of the reference; an append of a row at a step of a drawn region.
-/
import Derived.Test.YtgnkeecjaffnaaaProg
import Derived.Test.YtgnkeecjaffnaaaBase
import Derived.Test.YtgnkeecjaffnaaaPtP
import Derived.Test.YtgnkeecjaffnaaaRow
import Derived.Test.YtgnkeecjaffnaaaRowsOf
import Derived.Test.YtgnkeecjaffnaaaPc
import Derived.Test.YtgnkeecjaffnaaaPd
import Derived.Test.YtgnkeecjaffnaaaPrF
import Derived.Test.YtgnkeecjaffnaaaPfA
import Derived.Test.YtgnkeecjaffnaaaPfS
import Derived.Test.YtgnkeecjaffnaaaPtQ
import Derived.Laws.AppendOwnNone
import Derived.Laws.OwnMore
namespace Go.Proofs.Ytgnkeecjaffnaaa
open Go.RowKit

/-- What may happen to process i. -/
def chA (n R i : Nat) : List (Nat × Nat) := (0, 0) :: chs n R i
/-- How many crash. -/
def crd (l : List (Nat × Nat)) : Nat := (l.filter fun c => decide (0 < c.1)).length
theorem crd_snoc (l : List (Nat × Nat)) (c : Nat × Nat) : crd (l ++ [c]) = crd l + (if 0 < c.1 then 1 else 0) := by
  unfold crd
  rw [List.filter_append, List.length_append]
  by_cases h : 0 < c.1
  · simp [h]
  · simp [h]
theorem crd_le (l : List (Nat × Nat)) : crd l ≤ l.length := List.length_filter_le _ _
/-- The patterns that go on from one, with at most B crashes. -/
def ext (n R B : Nat) (l : List (Nat × Nat)) : List (List (Nat × Nat)) := (chA n R l.length).filterMap fun c => if crd (l ++ [c]) ≤ B then some (l ++ [c]) else none
theorem ext_pgen (n R left : Nat) (l : List (Nat × Nat)) : pgen n R 1 left l = ext n R (left + crd l) l := by
  have h0 : crd (l ++ [((0, 0) : Nat × Nat)]) ≤ left + crd l := by rw [crd_snoc]; simp
  unfold pgen ext chA
  rw [List.filterMap_cons, if_pos h0]
  simp only [pgen]
  show [l ++ [(0, 0)]] ++ _ = (l ++ [(0, 0)]) :: _
  rw [List.singleton_append]
  congr 1
  by_cases hl : left = 0
  · rw [if_pos hl]
    symm
    rw [List.filterMap_eq_nil_iff]
    intro c hc
    have := (chs_mem hc).1
    rw [if_neg]
    rw [crd_snoc, if_pos (by omega)]
    omega
  · rw [if_neg hl]
    have : ∀ zs : List (Nat × Nat), (∀ c, c ∈ zs → 1 ≤ c.1) → (zs.flatMap fun c => [l ++ [c]]) = zs.filterMap fun c => if crd (l ++ [c]) ≤ left + crd l then some (l ++ [c]) else none := fun zs => by
      induction zs with
      | nil => intro _; rfl
      | cons z zs ih =>
        intro h
        have hz := h z (by simp)
        rw [List.flatMap_cons, List.filterMap_cons, if_pos (by rw [crd_snoc, if_pos (by omega)]; omega), ih (fun c hc => h c (by simp [hc]))]
        rfl
    exact this _ fun c hc => (chs_mem hc).1
theorem pgen_snoc (n R : Nat) : ∀ (d left : Nat) (l : List (Nat × Nat)), pgen n R (d + 1) left l = (pgen n R d left l).flatMap (ext n R (left + crd l))
  | 0, left, l => by rw [ext_pgen]; simp [pgen]
  | d + 1, left, l => by
    have h0 : crd (l ++ [((0, 0) : Nat × Nat)]) = crd l := by rw [crd_snoc]; simp
    conv => lhs; rw [pgen]
    conv => rhs; rw [pgen]
    rw [pgen_snoc n R d left (l ++ [(0, 0)]), h0, List.flatMap_append]
    congr 1
    by_cases hl : left = 0
    · rw [if_pos hl, if_pos hl]; rfl
    · rw [if_neg hl, if_neg hl, List.flatMap_assoc]
      have : ∀ zs : List (Nat × Nat), (∀ c, c ∈ zs → 1 ≤ c.1) → (zs.flatMap fun c => pgen n R (d + 1) (left - 1) (l ++ [c])) = zs.flatMap fun c => (pgen n R d (left - 1) (l ++ [c])).flatMap (ext n R (left + crd l)) := fun zs => by
        induction zs with
        | nil => intro _; rfl
        | cons z zs ih =>
          intro h
          have hz := h z (by simp)
          rw [List.flatMap_cons, List.flatMap_cons, ih (fun c hc => h c (by simp [hc])), pgen_snoc n R d (left - 1) (l ++ [z]), crd_snoc, if_pos (by omega), show left - 1 + (crd l + 1) = left + crd l from by omega]
      exact this _ fun c hc => (chs_mem hc).1
/-- The patterns of the first i processes. -/
def pfx (n R F i : Nat) : List (List (Nat × Nat)) := pgen n R i F []
theorem pfx_zero (n R F : Nat) : pfx n R F 0 = [[]] := rfl
theorem pfx_succ (n R F i : Nat) : pfx n R F (i + 1) = (pfx n R F i).flatMap (ext n R F) := by
  unfold pfx; rw [pgen_snoc]; rfl
theorem pfx_len {n R F i : Nat} {l : List (Nat × Nat)} (h : l ∈ pfx n R F i) : l.length = i := by
  have := pgen_len i F [] l h
  simpa using this
theorem pfx_ok {n R F i : Nat} {l : List (Nat × Nat)} (h : l ∈ pfx n R F i) : patOk n R l := pgen_ok i F [] l (fun _ _ h => by simp at h) h
theorem ext_pos {n R B : Nat} {l : List (Nat × Nat)} (h : crd l ≤ B) : 1 ≤ (ext n R B l).length := by
  unfold ext chA
  rw [List.filterMap_cons, if_pos (by rw [crd_snoc]; simp; exact h)]
  simp
theorem ext_mem {n R B : Nat} {l x : List (Nat × Nat)} (h : x ∈ ext n R B l) : crd x ≤ B := by
  unfold ext at h
  rw [List.mem_filterMap] at h
  obtain ⟨c, _, h⟩ := h
  split at h
  · injection h with h; subst h; assumption
  · cases h
theorem pfx_crd {n R F : Nat} : ∀ {i : Nat} {l : List (Nat × Nat)}, l ∈ pfx n R F i → crd l ≤ F
  | 0, l, h => by
    have : l = [] := by simpa [pfx_zero] using h
    subst this; exact Nat.zero_le _
  | i + 1, l, h => by
    rw [pfx_succ, List.mem_flatMap] at h
    obtain ⟨l', _, h⟩ := h
    exact ext_mem h
theorem pfx_mono (n R F i : Nat) : (pfx n R F i).length ≤ (pfx n R F (i + 1)).length := by
  rw [pfx_succ]
  have : ∀ zs : List (List (Nat × Nat)), (∀ z, z ∈ zs → crd z ≤ F) → zs.length ≤ (zs.flatMap (ext n R F)).length := fun zs => by
    induction zs with
    | nil => intro _; exact Nat.le_refl _
    | cons z zs ih =>
      intro h
      rw [List.flatMap_cons, List.length_append, List.length_cons]
      have h1 := ih fun y hy => h y (by simp [hy])
      have h2 := ext_pos (n := n) (R := R) (h z (by simp))
      omega
  exact this _ fun z hz => pfx_crd hz
theorem pfx_le {n R F i : Nat} : ∀ d, (pfx n R F i).length ≤ (pfx n R F (i + d)).length
  | 0 => Nat.le_refl _
  | d + 1 => Nat.le_trans (pfx_le d) (pfx_mono n R F (i + d))
/-- .. with those of the next process, as far as the loops are: k patterns, of the next one m continuations. -/
def pnx (n R F i k m : Nat) : List (List (Nat × Nat)) := ((pfx n R F i).take k).flatMap (ext n R F) ++ (((chA n R i).take m).filterMap fun c => if crd ((pfx n R F i).getD k [] ++ [c]) ≤ F then some ((pfx n R F i).getD k [] ++ [c]) else none)
theorem pnx_zero (n R F i : Nat) : pnx n R F i 0 0 = [] := by simp [pnx]
theorem pnx_yes {n R F i k m : Nat} {l : List (Nat × Nat)} {c : Nat × Nat} (hl : (pfx n R F i)[k]? = some l) (hc : (chA n R i)[m]? = some c) (h : crd (l ++ [c]) ≤ F) : pnx n R F i k (m + 1) = pnx n R F i k m ++ [l ++ [c]] := by
  unfold pnx
  rw [List.take_add_one, hc, List.filterMap_append, ← List.append_assoc, List.getD_eq_getElem?_getD, hl]
  simp [h]
theorem pnx_no {n R F i k m : Nat} {l : List (Nat × Nat)} {c : Nat × Nat} (hl : (pfx n R F i)[k]? = some l) (hc : (chA n R i)[m]? = some c) (h : ¬ crd (l ++ [c]) ≤ F) : pnx n R F i k (m + 1) = pnx n R F i k m := by
  unfold pnx
  rw [List.take_add_one, hc, List.filterMap_append, ← List.append_assoc, List.getD_eq_getElem?_getD, hl]
  simp [h]
theorem pnx_row {n R F i k : Nat} {l : List (Nat × Nat)} (hl : (pfx n R F i)[k]? = some l) : pnx n R F i k (chA n R i).length = pnx n R F i (k + 1) 0 := by
  have hlen := pfx_len (List.mem_of_getElem? hl)
  unfold pnx
  rw [List.take_add_one, hl, List.flatMap_append, List.take_of_length_le (Nat.le_refl _), List.getD_eq_getElem?_getD, hl]
  simp [ext, hlen]
theorem pnx_end (n R F i : Nat) : pnx n R F i (pfx n R F i).length 0 = pfx n R F (i + 1) := by
  unfold pnx; rw [List.take_length, pfx_succ]; simp
/-! ### sizes -/
theorem chT_len (i r u : Nat) : (chT i r u).length ≤ u := by
  unfold chT
  rw [List.length_map]
  exact Nat.le_trans (List.length_filter_le _ _) (by simp)
theorem flat_len {α β : Type} (f : α → List β) (b : Nat) : ∀ zs : List α, (∀ z, z ∈ zs → (f z).length ≤ b) → (zs.flatMap f).length ≤ zs.length * b
  | [], _ => by simp
  | z :: zs, h => by
    rw [List.flatMap_cons, List.length_append, List.length_cons, Nat.succ_mul]
    have := flat_len f b zs fun y hy => h y (by simp [hy])
    have := h z (by simp)
    omega
theorem chP_len {n i r u : Nat} (hn : n ≤ 4) (hr : r ≤ 3) (hu : u ≤ 2 ^ n) : (chP n i r u).length ≤ 64 := by
  have h16 : (2 : Nat) ^ n ≤ 16 := Nat.pow_le_pow_right (n := 2) (j := 4) (by decide) hn
  unfold chP
  rw [List.length_append]
  have h1 := flat_len (fun t => chT i (t + 1) (2 ^ n)) 16 (List.range r) fun t _ => Nat.le_trans (chT_len _ _ _) h16
  rw [List.length_range] at h1
  have h2 := chT_len i (r + 1) u
  omega
theorem chA_len {n R i : Nat} (hn : n ≤ 4) (hR : R ≤ 3) : (chA n R i).length ≤ 65 := by
  unfold chA
  rw [List.length_cons, ← chP_end]
  have := chP_len (i := i) (r := R) (u := 0) hn hR (Nat.zero_le _)
  omega
theorem pnx_len {n R F i k m : Nat} (hn : n ≤ 4) (hR : R ≤ 3) (h : (pfx n R F i).length ≤ 64) : (pnx n R F i k m).length ≤ 64 * 65 + 65 := by
  unfold pnx
  rw [List.length_append]
  have h1 := flat_len (ext n R F) 65 ((pfx n R F i).take k) fun l hl => Nat.le_trans (List.length_filterMap_le _ _) (by
    exact chA_len hn hR)
  have h2 := List.length_filterMap_le (fun c => if crd ((pfx n R F i).getD k [] ++ [c]) ≤ F then some ((pfx n R F i).getD k [] ++ [c]) else none) ((chA n R i).take m)
  have h3 := chA_len (i := i) hn hR
  rw [List.length_take] at h1 h2
  have h4 : min k (pfx n R F i).length * 65 ≤ 64 * 65 := Nat.mul_le_mul_right _ (by omega)
  omega

set_option maxHeartbeats 2000000 in
theorem choices_any (n R i : Nat) (w : World) (hn : n ≤ 4) (hR : R ≤ 3) (_hi : i < n) :
    Calls Try.prog 59 #[.int .i64 n, .int .i64 R, .int .i64 i] w fun e w' => ∃ v, e = .returned v ∧ CrO w' w.heap.size v (chA n R i) ∧ Below w.heap.size w w' := by
  have hw1 := wrap_pow (k := n) rfl hn
  have h16 : (2 : Nat) ^ n ≤ 16 := Nat.pow_le_pow_right (n := 2) (j := 4) (by decide) hn
  have hpw : ((2 ^ n : Nat) : Int) = (2 : Int) ^ n := by rw [Int.natCast_pow]; rfl
  obtain ⟨P, eP⟩ : ∃ P, P = 2 ^ n := ⟨_, rfl⟩
  rw [← eP] at hw1 h16 hpw
  have hPP : wrap64 ((2 : Int) ^ n) = (P : Int) := by rw [← hpw]; unfold wrap64; omega
  have HP := Lib.hid eP
  have HPW := Lib.hid hpw
  clear eP hpw
  go_enter Try.func59, Try.ntmps59
  go_upto_region 2 with (fail)
  have HO : Hid (CrO (w.alloc (.cells #[.int .i64 0, .int .i64 0] 37)) w.heap.size (.slice (some ⟨w.heap.size, 0, none⟩) 1 1) ((0, 0) :: chP n i 0 0)) := Lib.hid ⟨rfl, .inr ⟨w.heap.size, 1, _, rfl, Nat.le_refl _, heap_alloc_new w _, Nat.le_refl _, by decide, rfl, rfl⟩⟩
  have HB := Lib.hid (below_alloc w (.cells #[.int .i64 0, .int .i64 0] 37))
  generalize w.alloc (.cells #[.int .i64 0, .int .i64 0] 37) = W at HO HB ⊢
  generalize Value.slice (some ⟨w.heap.size, 0, none⟩) 1 1 = v0 at HO ⊢
  go_wp2_with fail
  go_loopw [7, 8] (fun lv tv wr => ∃ q : Nat, 1 ≤ q ∧ q ≤ R + 1 ∧ tv = .int .i64 q ∧ CrO wr w.heap.size lv ((0, 0) :: chP n i (q - 1) 0) ∧ Below w.heap.size w wr) (fun _ tv _ => R + 1 - (intOf tv).toNat)
  case atStart => exact ⟨1, Nat.le_refl _, by omega, rfl, HO.out, HB.out⟩
  case round =>
    clear HO HB
    obtain ⟨q, hq1, hq, rfl, ho, hb⟩ := hrel
    obtain ⟨r, er⟩ : ∃ r, r = q - 1 := ⟨_, rfl⟩
    rw [← er] at ho
    have ER := Lib.hid (show r + 1 = q by omega)
    clear er
    have HO := Lib.hid ho
    have HB := Lib.hid hb
    clear ho hb
    by_cases hlt : q ≤ R
    · have hqR : (q : Int) ≤ (R : Int) := by omega
      go_wp2_with fail
      go_loopw [7, 9] (fun lv qv wr => ∃ u : Nat, u ≤ P ∧ qv = .int .i64 u ∧ CrO wr w.heap.size lv ((0, 0) :: chP n i r u) ∧ Below w.heap.size w wr) (fun _ qv _ => P - (intOf qv).toNat)
      case atStart => exact ⟨0, Nat.zero_le _, rfl, HO.out, HB.out⟩
      case round =>
        clear HO HB
        obtain ⟨u, hu, rfl, ho, hb⟩ := hrel
        have HO := Lib.hid ho
        have HB := Lib.hid hb
        have hsz := hb.size
        by_cases hlu : u < P
        · have e2 : decide ((u : Int) < (2 : Int) ^ n) = true := decide_eq_true (by rw [← HPW.out]; omega)
          have e2' : decide ((u : Int) < (P : Int)) = true := decide_eq_true (by omega)
          have hbit := shr_bit u i
          have hbm : ((u : Int) / 2 ^ i).tmod 2 = ((if u.testBit i then 1 else 0 : Nat) : Int) := by
            have e : ((u : Int) / 2 ^ i) = ((u / 2 ^ i : Nat) : Int) := by rw [Int.natCast_ediv, Int.natCast_pow]; rfl
            rw [e, Nat.testBit_eq_decide_div_mod_eq]
            generalize u / 2 ^ i = q
            show ((q % 2 : Nat) : Int) = _
            by_cases h : q % 2 = 1
            · simp [h]
            · have : q % 2 = 0 := by omega
              simp [this]
          have hlen := chP_len (i := i) (r := r) (u := u) hn (by have := ER.out; omega) (by rw [← HP.out]; exact hu)
          obtain ⟨AL, cL, rfl, -⟩ := own_form' ho
          clear ho hb hbit
          cases hb : u.testBit i
          · rw [hb] at hbm
            have hbm' : ((u : Int) / 2 ^ i).tmod 2 = 0 := hbm
            have HST := Lib.hid (chP_yes (n := n) (r := r) hb)
            obtain ⟨N, eN⟩ : ∃ N, N = ((0, 0) :: chP n i r u).length := ⟨_, rfl⟩
            have ho := HO.out
            unfold CrO at ho
            rw [← eN] at ho ⊢
            have hN : N ≤ 65 := by rw [eN, List.length_cons]; omega
            have HO2 := Lib.hid ho
            have EN := Lib.hid eN
            clear hbm hb ho eN HO hlen
            go_wp2_with (at_builtin; obtain ⟨i0, hi, hz0, hz1, hz2⟩ := info_parts Try.infoCrash; refine wpList_append_own_at _ rfl _ _ 26 rfl w.heap.size 37 i0 _ 2 16 Try.underlying26 hi hz0 hz1 hz2 rfl (by decide) _ _ _ rfl (own_alloc' HO2.out _) ⟨wr.heap.size, 0, none⟩ 1 1 [.int .i64 q, .int .i64 u] rfl rfl (World.news_of_block (cs := #[.int .i64 q, .int .i64 u]) (t := 37) (fr := (0, 0)) (heap_alloc_new wr _)) (by simp [Value.oneCell']) (by unfold maxLen; omega) (by omega) (by simp; omega) ?_; intro v' w3 hown' hgrow _ _; have HOW3 := Lib.hid hown'; have HB3 := Lib.hid (below_append HB.out rfl HO2.out hgrow); clear hown' hgrow hi hz0 hz1 hz2)
            go_roundw
            case rel =>
              refine ⟨u + 1, by omega, by go_num, ?_, HB3.out⟩
              unfold CrO
              rw [HST.out, ← List.cons_append, crL_snoc, List.length_append, ← EN.out]
              rw [ER.out]
              exact HOW3.out
            case measure => simp [intOf]; omega
          · rw [hb] at hbm
            have hbm' : ((u : Int) / 2 ^ i).tmod 2 = 1 := hbm
            have HO2 : Hid (CrO wr w.heap.size (.slice AL ((0, 0) :: chP n i r u).length cL) ((0, 0) :: chP n i r (u + 1))) := Lib.hid (by rw [chP_no hb]; exact HO.out)
            clear hbm hb HO hlen
            go_wp2_with fail
            go_roundw
            case rel => exact ⟨u + 1, by omega, by go_num, HO2.out, HB.out⟩
            case measure => simp [intOf]; omega
        · obtain rfl : u = P := by omega
          have e2 : decide ((u : Int) < (2 : Int) ^ n) = false := decide_eq_false (by rw [← HPW.out]; omega)
          have e2' : decide ((u : Int) < (u : Int)) = false := decide_eq_false (by omega)
          have HO2 : Hid (CrO wr w.heap.size u7 ((0, 0) :: chP n i (q + 1 - 1) 0)) := Lib.hid (by rw [Nat.add_sub_cancel, ← ER.out, ← chP_round, ← HP.out]; exact ho)
          clear ho hb HO
          go_wp2_with fail
          go_roundw
          case rel => exact ⟨q + 1, by omega, by omega, by go_num, HO2.out, HB.out⟩
          case measure => simp [intOf]; omega
    · have hqR : ¬ (q : Int) ≤ (R : Int) := by omega
      obtain rfl : r = R := by have := ER.out; omega
      have HO2 : Hid (CrO wr w.heap.size u7 (chA n r i)) := Lib.hid (by unfold chA; rw [← chP_end]; exact HO.out)
      clear HO
      go_wp2_with fail
      go_ret
      exact ⟨_, rfl, HO2.out, HB.out⟩
/-- A pattern that is owned, read. -/
theorem crO_at {w : World} {base : Nat} {v : Value} {l : List (Nat × Nat)} (h : CrO w base v l) {k : Nat} {c : Nat × Nat} (hk : l[k]? = some c) : ∃ b cap, v = .slice (some ⟨b, 0, none⟩) l.length cap ∧ w.cell? ⟨b, k * 2, none⟩ = some (.int .i64 (c.1 : Nat)) ∧ w.cell? ⟨b, k * 2 + 1, none⟩ = some (.int .i64 (c.2 : Nat)) := by
  obtain ⟨A, cap, rfl, hA⟩ := own_form' h
  have hlt := (List.getElem?_eq_some_iff.1 hk).1
  obtain ⟨b, rfl, _, _, h1⟩ := hA (k * 2) (by omega)
  obtain ⟨b', e, _, _, h2⟩ := hA (k * 2 + 1) (by omega)
  injection e with e
  injection e with e _ _
  subst e
  obtain ⟨g1, g2⟩ := crL_get l k c hk
  exact ⟨b, cap, rfl, h1.trans g1, h2.trans g2⟩
theorem crashed_any (l : List (Nat × Nat)) (v : Value) (base : Nat) (w : World) (h : CrO w base v l) (hl : l.length ≤ 65536) :
    Calls Try.prog 60 #[v] w fun e w' => e = .returned (.int .i64 (crd l : Nat)) ∧ w = w' := by
  have H := Lib.hid h
  obtain ⟨A, cap, rfl, -⟩ := own_form' h
  obtain ⟨N, eN⟩ : ∃ N, N = l.length := ⟨_, rfl⟩
  rw [← eN]
  have EN := Lib.hid eN
  have hN : N ≤ 65536 := by omega
  clear h eN hl
  go_enter Try.func60, Try.ntmps60
  go_wp2
  go_loop [3, 4] (fun cv iv => ∃ i : Nat, i ≤ N ∧ iv = .int .i64 i ∧ cv = .int .i64 (crd (l.take i) : Nat)) (fun _ iv => N - (intOf iv).toNat)
  case atStart => exact ⟨0, Nat.zero_le _, rfl, rfl⟩
  case round =>
    obtain ⟨i, hi, rfl, rfl⟩ := hrel
    by_cases hlt : i < N
    · obtain ⟨c, hc⟩ : ∃ c, l[i]? = some c := ⟨_, List.getElem?_eq_getElem (by rw [← EN.out]; exact hlt)⟩
      obtain ⟨b, cap', e, c1, -⟩ := crO_at H.out hc
      have hs : crd (l.take (i + 1)) = crd (l.take i) + (if 0 < c.1 then 1 else 0) := by rw [List.take_add_one, hc]; exact crd_snoc _ _
      have hle : crd (l.take i) ≤ i := Nat.le_trans (crd_le _) (by rw [List.length_take]; exact Nat.min_le_left _ _)
      injection e with e1 _ _
      subst e1
      obtain ⟨q, eq⟩ : ∃ q, q = crd (l.take i) := ⟨_, rfl⟩
      obtain ⟨q', eq'⟩ : ∃ q, q = crd (l.take (i + 1)) := ⟨_, rfl⟩
      rw [← eq, ← eq'] at hs
      rw [← eq] at hle ⊢
      have EQ := Lib.hid eq'
      obtain ⟨x, ex⟩ : ∃ x, x = c.1 := ⟨_, rfl⟩
      rw [← ex] at hs c1
      have hii : (i : Int) < (N : Int) := by omega
      clear eq eq' hc ex
      by_cases h0 : 0 < x
      · have t0 : decide ((0 : Int) < (x : Int)) = true := decide_eq_true (by omega)
        have t0' : decide (0 < x) = true := decide_eq_true h0
        rw [if_pos h0] at hs
        have HS := Lib.hid hs
        clear hs
        go_wp2_with fail
        go_round
        case rel => exact ⟨i + 1, by omega, by go_num, by rw [← EQ.out, HS.out]; rfl⟩
        case measure => simp [intOf]; omega
      · have t0 : decide ((0 : Int) < (x : Int)) = false := decide_eq_false (by omega)
        have t0' : decide (0 < x) = false := decide_eq_false h0
        rw [if_neg h0] at hs
        have HS := Lib.hid hs
        clear hs
        go_wp2_with fail
        go_round
        case rel => exact ⟨i + 1, by omega, by go_num, by rw [← EQ.out, HS.out]; rfl⟩
        case measure => simp [intOf]; omega
    · obtain rfl : i = N := by omega
      have HV := Lib.hid (show crd (l.take i) = crd l by rw [EN.out, List.take_length])
      obtain ⟨q, eq⟩ : ∃ q, q = crd (l.take i) := ⟨_, rfl⟩
      rw [← eq] at HV ⊢
      clear eq
      go_wp2_with fail
      go_ret
      exact ⟨by rw [← HV.out]; rfl, rfl⟩
end Go.Proofs.Ytgnkeecjaffnaaa
