/-
  Walks of layer 54: SameRun of the reference.
-/
import Derived.Test.YtgnkeecjaffnaaaProg
import Derived.Test.YtgnkeecjaffnaaaBase
import Derived.Test.YtgnkeecjaffnaaaRow
import Derived.Test.YtgnkeecjaffnaaaRowsOf
import Derived.Test.YtgnkeecjaffnaaaPc
import Derived.Test.YtgnkeecjaffnaaaPrP
import Derived.Test.YtgnkeecjaffnaaaPrE
namespace Go.Proofs.Ytgnkeecjaffnaaa
open Go.RowKit

/-- Two runs are the same. -/
def SameP (n : Nat) (m : Nat → Nat) (L : Nat → Nat → Int) (k : Nat) (F : Nat → Nat) (n' : Nat) (m' : Nat → Nat) (L' : Nat → Nat → Int) (k' : Nat) (F' : Nat → Nat) : Prop :=
  n = n' ∧ k = k' ∧ (∀ t, t < n → m t = m' t ∧ ∀ i, i < m t → L t i = L' t i) ∧ ∀ t, t < k → F t = F' t
theorem two_boxes (w : World) (x y x' y' : Value) (T T' : TypeId) (W : World) (hW : W = (w.alloc (.cells #[x, y] T)).alloc (.cells #[x', y'] T')) :
    W.cell? ⟨w.heap.size, 0, none⟩ = some x ∧ W.cell? ⟨w.heap.size, 1, none⟩ = some y ∧ W.cell? ⟨w.heap.size + 1, 0, none⟩ = some x' ∧ W.cell? ⟨w.heap.size + 1, 1, none⟩ = some y' ∧ Below w.heap.size w W := by
  subst hW
  have k0 := (Blk.new w #[x, y] T).alloc (.cells #[x', y'] T')
  have k1 := Blk.new (w.alloc (.cells #[x, y] T)) #[x', y'] T'
  rw [World.size_alloc] at k1
  exact ⟨k0.cell rfl, k0.cell rfl, k1.cell rfl, k1.cell rfl, (below_alloc w _).alloc (by simp) _⟩
set_option maxHeartbeats 4000000 in
theorem SameRun_any (v v' : Value) (n n' k k' : Nat) (m m' : Nat → Nat) (L L' : Nat → Nat → Int) (F F' : Nat → Nat) (w : World) (h : RunR w v n m L k F) (h' : RunR w v' n' m' L' k' F') (hn : n ≤ 65536) (hk : k ≤ 65536) (B : Bool) (hB : B = true ↔ SameP n m L k F n' m' L' k' F') :
    Calls Try.prog 20 #[v, v'] w fun e w' => e = .returned (.bool B) ∧ Below w.heap.size w w' := by
  obtain ⟨A, c, C, d, R, cc, rfl, hM, hF⟩ := h
  obtain ⟨A', c', C', d', R', cc', rfl, hM', hF'⟩ := h'
  have HM := Lib.hid hM
  have HM' := Lib.hid hM'
  have HF := Lib.hid hF
  have HF' := Lib.hid hF'
  have HNO := Lib.hid (fun (h : ¬ SameP n m L k F n' m' L' k' F') => (Bool.eq_false_iff.2 (fun e => h (hB.1 e)) : B = false))
  have HYE := Lib.hid hB.2
  clear hM hM' hF hF' hB
  go_enter Try.func20, Try.ntmps20
  go_upto_region 1 with (fail)
  obtain ⟨W, hW⟩ : ∃ W, W = (w.alloc (.cells #[.slice A n c, .slice C k d] 30)).alloc (.cells #[.slice A' n' c', .slice C' k' d'] 30) := ⟨_, rfl⟩
  rw [← hW]
  obtain ⟨d0, d1, e0, e1, hB⟩ := two_boxes w _ _ _ _ _ _ W hW
  have HB := Lib.hid hB
  clear hW hB
  by_cases h1 : n = n'
  case neg =>
    have t1 : ((n : Int) != (n' : Int)) = true := by rw [bne_iff_ne]; omega
    have HV := Lib.hid (HNO.out (fun h => h1 h.1))
    clear h1 HNO HYE
    go_wp2_with fail
    go_ret
    exact ⟨by rw [HV.out]; rfl, HB.out⟩
  subst h1
  by_cases h2 : k = k'
  case neg =>
    have t2 : ((k : Int) != (k' : Int)) = true := by rw [bne_iff_ne]; omega
    have HV := Lib.hid (HNO.out (fun h => h2 h.2.1))
    clear h2 HNO HYE
    go_wp2_with fail
    go_ret
    exact ⟨by rw [HV.out]; rfl, HB.out⟩
  subst h2
  have D0 := Lib.hid d0
  have D1 := Lib.hid d1
  have E0 := Lib.hid e0
  have E1 := Lib.hid e1
  have hsz := HB.out.size
  go_wp2_with fail
  clear d0 d1 e0 e1
  go_loopw [5] (fun iv wr => ∃ t : Nat, t ≤ n ∧ iv = .int .i64 t ∧ Hid (∀ u, u < t → m u = m' u ∧ ∀ i, i < m u → L u i = L' u i) ∧ Below W.heap.size W wr) (fun iv _ => n - (intOf iv).toNat)
  case atStart => exact ⟨0, Nat.zero_le _, rfl, Lib.hid fun u hu => absurd hu (Nat.not_lt_zero _), Below.refl _ _⟩
  case round =>
    obtain ⟨t, ht, rfl, HP, hbl⟩ := hrel
    have hsw := hbl.size
    have d0 := cell_below hbl D0.out
    have d1 := cell_below hbl D1.out
    have e0 := cell_below hbl E0.out
    have e1 := cell_below hbl E1.out
    by_cases hlt : t < n
    · obtain ⟨b, off, rfl, hc, hm, hr⟩ := (HM.out.below HB.out).below hbl t hlt
      obtain ⟨b', off', rfl, hc', hm', hr'⟩ := (HM'.out.below HB.out).below hbl t hlt
      have hti : (t : Int) < (n : Int) := by omega
      have hti0 : (0 : Int) ≤ (t : Int) := by omega
      have HR := Lib.hid hr
      have HR' := Lib.hid hr'
      have HBL := Lib.hid hbl
      have HNE := Lib.hid (fun (h : ¬ (m t = m' t ∧ ∀ i, i < m t → L t i = L' t i)) => HNO.out (fun q => h (q.2.2.1 t hlt)))
      have HNX : Hid ((m t = m' t ∧ ∀ i, i < m t → L t i = L' t i) → ∀ u, u < t + 1 → m u = m' u ∧ ∀ i, i < m u → L u i = L' u i) := Lib.hid fun h0 u hu => by
        rcases Nat.lt_succ_iff_lt_or_eq.1 hu with h1 | rfl
        · exact HP.out u h1
        · exact h0
      clear hr hr' hbl HP
      by_cases hmm : m t = m' t
      case neg =>
        have t3 : ((m t : Int) != (m' t : Int)) = true := by rw [bne_iff_ne]; omega
        have HV := Lib.hid (HNE.out (fun h => hmm h.1))
        clear hmm HNE HNX
        go_wp2_with fail
        go_quiet (fail)
        go_wp2_with fail
        go_ret
        exact ⟨by rw [HV.out]; rfl, below_drewN (HB.out.trans (HBL.out.mono hsz)) _⟩
      have t3 : ((m t : Int) != (m' t : Int)) = false := by rw [hmm]; simp
      have HMM := Lib.hid hmm
      have HMB := Lib.hid hm
      have HMB' := Lib.hid hm'
      obtain ⟨M, eM⟩ : ∃ M, M = m t := ⟨_, rfl⟩
      obtain ⟨M', eM'⟩ : ∃ M, M = m' t := ⟨_, rfl⟩
      have hMM : M = M' := by omega
      rw [← eM] at hc t3
      rw [← eM'] at hc' t3
      subst hMM
      have EM := Lib.hid eM
      clear hmm eM eM' hm' 
      go_wp2_with fail
      go_quiet (fail)
      obtain ⟨W1, eW1⟩ : ∃ W1, W1 = wr.drewN nq := ⟨_, rfl⟩
      rw [← eW1]
      have HB1 : Hid (Below W.heap.size W W1) := Lib.hid (by rw [eW1]; exact below_drewN HBL.out _)
      have k0 : Hid (W1.cell? ⟨b, off + t, none⟩ = some (.slice (R t) M (cc t))) := Lib.hid (by rw [eW1]; exact hc)
      have k1 : Hid (W1.cell? ⟨b', off' + t, none⟩ = some (.slice (R' t) M (cc' t))) := Lib.hid (by rw [eW1]; exact hc')
      have HQ : Hid (I64s W1 (R t) M (L t)) := Lib.hid (by rw [eW1, EM.out]; exact HR.out)
      have HQ' : Hid (I64s W1 (R' t) M (L' t)) := Lib.hid (by rw [eW1, EM.out, HMM.out]; exact HR'.out)
      have hM64 : M ≤ 9223372036854775807 := by rw [EM.out]; exact hm
      clear eW1 d0 d1 e0 e1 hc hc' HR HR' HBL hm
      go_wp2_with fail
      go_loopw [6] (fun iv wi => ∃ i : Nat, i ≤ M ∧ iv = .int .i64 i ∧ Hid (∀ u, u < i → L t u = L' t u) ∧ Below W1.heap.size W1 wi) (fun iv _ => M - (intOf iv).toNat)
      case atStart => exact ⟨0, Nat.zero_le _, rfl, Lib.hid fun u hu => absurd hu (Nat.not_lt_zero _), Below.refl _ _⟩
      case round =>
        obtain ⟨i, hi, rfl, HP, hbl⟩ := hrel
        have hbl2 := HB1.out.trans (hbl.mono HB1.out.size)
        have d0 := cell_below hbl2 D0.out
        have d1 := cell_below hbl2 D1.out
        have e0 := cell_below hbl2 E0.out
        have e1 := cell_below hbl2 E1.out
        have c0 := cell_below hbl k0.out
        have c1 := cell_below hbl k1.out
        by_cases hlt2 : i < M
        · obtain ⟨b2, o2, ea, ca, -⟩ := HQ.out.below hbl i hlt2
          obtain ⟨b3, o3, eb, cb, -⟩ := HQ'.out.below hbl i hlt2
          rw [ea] at c0
          rw [eb] at c1
          have hii : (i : Int) < (M : Int) := by omega
          have hii0 : (0 : Int) ≤ (i : Int) := by omega
          have HB2 := Lib.hid hbl2
          have HBI := Lib.hid hbl
          have HPX : Hid (L t i = L' t i → ∀ u, u < i + 1 → L t u = L' t u) := Lib.hid fun h0 u hu => by
            rcases Nat.lt_succ_iff_lt_or_eq.1 hu with h1 | rfl
            · exact HP.out u h1
            · exact h0
          have HBAD : Hid (L t i ≠ L' t i → B = false) := Lib.hid fun h0 => HNE.out (fun q => h0 (q.2 i (by rw [← EM.out]; exact hlt2)))
          obtain ⟨x, ex⟩ : ∃ x, x = L t i := ⟨_, rfl⟩
          obtain ⟨y, ey⟩ : ∃ x, x = L' t i := ⟨_, rfl⟩
          rw [← ex] at ca HPX HBAD
          rw [← ey] at cb HPX HBAD
          clear hbl hbl2 HP ea eb ex ey HNX HNE
          by_cases hxy : x = y
          · have t5 : (x != y) = false := by rw [hxy]; simp
            have HPN := Lib.hid (HPX.out hxy)
            clear hxy HPX HBAD
            go_wp2_with fail
            go_quiet (fail)
            go_wp2_with fail
            go_roundw
            case rel => exact ⟨i + 1, by omega, by go_num, HPN, below_drewN HBI.out _⟩
            case measure => simp [intOf]; omega
          · have t5 : (x != y) = true := by rw [bne_iff_ne]; exact hxy
            have HV := Lib.hid (HBAD.out hxy)
            clear hxy HPX HBAD
            go_wp2_with fail
            go_quiet (fail)
            go_wp2_with fail
            go_ret
            exact ⟨by rw [HV.out]; rfl, below_drewN (HB.out.trans (HB2.out.mono hsz)) _⟩
        · obtain rfl : i = M := by omega
          have HPN := Lib.hid (HNX.out ⟨HMM.out, by rw [← EM.out]; exact HP.out⟩)
          have HB2 := Lib.hid hbl2
          clear hbl hbl2 HP HNX HNE
          go_wp2_with fail
          go_roundw
          case rel => exact ⟨t + 1, by omega, by go_num, HPN, HB2.out⟩
          case measure => simp [intOf]; omega
    · obtain rfl : t = n := by omega
      have HPN := Lib.hid HP.out
      have HBL := Lib.hid hbl
      clear HP hbl hlt
      go_wp2_with fail
      obtain ⟨W1, eW1⟩ : ∃ W1, W1 = wr := ⟨_, rfl⟩
      subst eW1
      have D0 := Lib.hid d0
      have D1 := Lib.hid d1
      have E0 := Lib.hid e0
      have E1 := Lib.hid e1
      clear d0 d1 e0 e1
      go_loopw [7] (fun iv wi => ∃ i : Nat, i ≤ k ∧ iv = .int .i64 i ∧ Hid (∀ u, u < i → F u = F' u) ∧ Below W1.heap.size W1 wi) (fun iv _ => k - (intOf iv).toNat)
      case atStart => exact ⟨0, Nat.zero_le _, rfl, Lib.hid fun u hu => absurd hu (Nat.not_lt_zero _), Below.refl _ _⟩
      case round =>
        obtain ⟨i, hi, rfl, HP, hbl⟩ := hrel
        have hbl2 := HB.out.trans ((HBL.out.trans (hbl.mono HBL.out.size)).mono hsz)
        have d0 := cell_below hbl D0.out
        have d1 := cell_below hbl D1.out
        have e0 := cell_below hbl E0.out
        have e1 := cell_below hbl E1.out
        by_cases hlt2 : i < k
        · obtain ⟨b, off, rfl, ca, -⟩ := HF.out.below hbl2 i hlt2
          obtain ⟨b', off', rfl, cb, -⟩ := HF'.out.below hbl2 i hlt2
          have hii : (i : Int) < (k : Int) := by omega
          have hii0 : (0 : Int) ≤ (i : Int) := by omega
          have HB2 := Lib.hid hbl2
          have HBI := Lib.hid hbl
          have HPX : Hid (F i = F' i → ∀ u, u < i + 1 → F u = F' u) := Lib.hid fun h0 u hu => by
            rcases Nat.lt_succ_iff_lt_or_eq.1 hu with h1 | rfl
            · exact HP.out u h1
            · exact h0
          have HBAD : Hid (F i ≠ F' i → B = false) := Lib.hid fun h0 => HNO.out (fun q => h0 (q.2.2.2 i hlt2))
          obtain ⟨x, ex⟩ : ∃ x, x = F i := ⟨_, rfl⟩
          obtain ⟨y, ey⟩ : ∃ x, x = F' i := ⟨_, rfl⟩
          rw [← ex] at ca HPX HBAD
          rw [← ey] at cb HPX HBAD
          clear hbl hbl2 HP ex ey
          by_cases hxy : x = y
          · have t5 : ((x : Int) != (y : Int)) = false := by rw [hxy]; simp
            have HPX2 := Lib.hid (HPX.out hxy)
            clear hxy HPX HBAD
            go_wp2_with fail
            go_quiet (fail)
            go_wp2_with fail
            go_roundw
            case rel => exact ⟨i + 1, by omega, by go_num, HPX2, below_drewN HBI.out _⟩
            case measure => simp [intOf]; omega
          · have t5 : ((x : Int) != (y : Int)) = true := by rw [bne_iff_ne]; omega
            have HV := Lib.hid (HBAD.out hxy)
            clear hxy HPX HBAD
            go_wp2_with fail
            go_quiet (fail)
            go_wp2_with fail
            go_ret
            exact ⟨by rw [HV.out]; rfl, below_drewN HB2.out _⟩
        · obtain rfl : i = k := by omega
          have HV := Lib.hid (HYE.out ⟨rfl, rfl, HPN.out, HP.out⟩)
          have HB2 := Lib.hid hbl2
          clear hbl hbl2 HP HPN HYE
          go_wp2_with fail
          go_ret
          exact ⟨by rw [HV.out]; rfl, HB2.out⟩
end Go.Proofs.Ytgnkeecjaffnaaa
