/-
  Walks of layer 54: systems, read; Same of the reference.
-/
import Derived.Test.YtgnkeecjaffnaaaProg
import Derived.Test.YtgnkeecjaffnaaaBase
import Derived.Test.YtgnkeecjaffnaaaRow
import Derived.Test.YtgnkeecjaffnaaaRowsOf
import Derived.Test.YtgnkeecjaffnaaaPc
import Derived.Test.YtgnkeecjaffnaaaPrP
import Derived.Test.YtgnkeecjaffnaaaPrE
import Derived.Test.YtgnkeecjaffnaaaPrG
import Derived.Deep.RegionHeld3
namespace Go.Proofs.Ytgnkeecjaffnaaa
open Go.RowKit

/-- A slice of runs, read: each by its two slices. -/
def RunsR (w : World) (A : Option Addr) (n : Nat) (T : Nat → Nat) (m : Nat → Nat → Nat) (L : Nat → Nat → Nat → Int) (K : Nat → Nat) (F : Nat → Nat → Nat) : Prop :=
  ∀ i, i < n → ∃ b off u v, A = some ⟨b, off, none⟩ ∧ w.cell? ⟨b, off + i * 2, none⟩ = some u ∧ w.cell? ⟨b, off + i * 2 + 1, none⟩ = some v ∧ T i ≤ 65536 ∧ K i ≤ 65536 ∧ RunR w (.agg #[u, v]) (T i) (m i) (L i) (K i) (F i)
theorem RunsR.below {w w' : World} {A : Option Addr} {n : Nat} {T : Nat → Nat} {m : Nat → Nat → Nat} {L : Nat → Nat → Nat → Int} {K : Nat → Nat} {F : Nat → Nat → Nat} (h : RunsR w A n T m L K F) (hb : Below w.heap.size w w') : RunsR w' A n T m L K F := fun i hi =>
  let ⟨b, off, u, v, e, h1, h2, h3, h4, h5⟩ := h i hi; ⟨b, off, u, v, e, cell_below hb h1, cell_below hb h2, h3, h4, h5.below hb⟩
/-- A system, read. -/
def SysR (w : World) (x : Value) (a f l : Int) (n : Nat) (T : Nat → Nat) (m : Nat → Nat → Nat) (L : Nat → Nat → Nat → Int) (K : Nat → Nat) (F : Nat → Nat → Nat) : Prop :=
  ∃ A c, x = .agg #[.int .i64 a, .int .i64 f, .int .i64 l, .slice A n c] ∧ RunsR w A n T m L K F
def SamS (a f l : Int) (n : Nat) (T : Nat → Nat) (m : Nat → Nat → Nat) (L : Nat → Nat → Nat → Int) (K : Nat → Nat) (F : Nat → Nat → Nat) (a' f' l' : Int) (n' : Nat) (T' : Nat → Nat) (m' : Nat → Nat → Nat) (L' : Nat → Nat → Nat → Int) (K' : Nat → Nat) (F' : Nat → Nat → Nat) : Prop :=
  a = a' ∧ f = f' ∧ l = l' ∧ n = n' ∧ ∀ i, i < n → SameP (T i) (m i) (L i) (K i) (F i) (T' i) (m' i) (L' i) (K' i) (F' i)
theorem two_boxes4 (w : World) (xs ys : Array Value) (T T' : TypeId) (W : World) (hW : W = (w.alloc (.cells xs T)).alloc (.cells ys T')) : Blk W w.heap.size T xs ∧ Blk W (w.heap.size + 1) T' ys ∧ Below w.heap.size w W := by
  subst hW
  have k0 := (Blk.new w xs T).alloc (.cells ys T')
  have k1 := Blk.new (w.alloc (.cells xs T)) ys T'
  rw [World.size_alloc] at k1
  exact ⟨k0, k1, (below_alloc w _).alloc (by simp) _⟩
set_option maxHeartbeats 4000000 in
theorem Same_any (x x' : Value) (a f l a' f' l' : Int) (n n' : Nat) (T T' : Nat → Nat) (m m' : Nat → Nat → Nat) (L L' : Nat → Nat → Nat → Int) (K K' : Nat → Nat) (F F' : Nat → Nat → Nat) (w : World) (h : SysR w x a f l n T m L K F) (h' : SysR w x' a' f' l' n' T' m' L' K' F') (hn : n ≤ 65536) (B : Bool) (hB : B = true ↔ SamS a f l n T m L K F a' f' l' n' T' m' L' K' F') :
    Calls Try.prog 28 #[x, x'] w fun e w' => e = .returned (.bool B) ∧ Below w.heap.size w w' := by
  obtain ⟨A, c, rfl, hR⟩ := h
  obtain ⟨A', c', rfl, hR'⟩ := h'
  have HR := Lib.hid hR
  have HR' := Lib.hid hR'
  have HNO := Lib.hid (fun (h : ¬ SamS a f l n T m L K F a' f' l' n' T' m' L' K' F') => (Bool.eq_false_iff.2 (fun e => h (hB.1 e)) : B = false))
  have HYE := Lib.hid hB.2
  clear hR hR' hB
  go_enter Try.func28, Try.ntmps28
  go_upto_region 1 with (fail)
  obtain ⟨W, hW⟩ : ∃ W, W = (w.alloc (.cells #[.int .i64 a, .int .i64 f, .int .i64 l, .slice A n c] 44)).alloc (.cells #[.int .i64 a', .int .i64 f', .int .i64 l', .slice A' n' c'] 44) := ⟨_, rfl⟩
  rw [← hW]
  obtain ⟨hk0, hk1, hB⟩ := two_boxes4 w _ _ _ _ W hW
  have HB := Lib.hid hB
  have d0 := hk0.cell (k := 0) rfl
  have d1 := hk0.cell (k := 1) rfl
  have d2 := hk0.cell (k := 2) rfl
  have d3 := hk0.cell (k := 3) rfl
  have e0 := hk1.cell (k := 0) rfl
  have e1 := hk1.cell (k := 1) rfl
  have e2 := hk1.cell (k := 2) rfl
  have e3 := hk1.cell (k := 3) rfl
  clear hW hB hk0 hk1
  by_cases h1 : a = a'
  case neg =>
    have t1 : (a != a') = true := by rw [bne_iff_ne]; exact h1
    have HV := Lib.hid (HNO.out (fun h => h1 h.1))
    clear h1 HNO HYE
    go_wp2_with fail
    go_ret
    exact ⟨by rw [HV.out]; rfl, HB.out⟩
  have t1 : (a != a') = false := by rw [h1]; simp
  by_cases h2 : f = f'
  case neg =>
    have t2 : (f != f') = true := by rw [bne_iff_ne]; exact h2
    have HV := Lib.hid (HNO.out (fun h => h2 h.2.1))
    clear h1 h2 HNO HYE
    go_wp2_with fail
    go_ret
    exact ⟨by rw [HV.out]; rfl, HB.out⟩
  have t2 : (f != f') = false := by rw [h2]; simp
  by_cases h3 : l = l'
  case neg =>
    have t3 : (l != l') = true := by rw [bne_iff_ne]; exact h3
    have HV := Lib.hid (HNO.out (fun h => h3 h.2.2.1))
    clear h1 h2 h3 HNO HYE
    go_wp2_with fail
    go_ret
    exact ⟨by rw [HV.out]; rfl, HB.out⟩
  have t3 : (l != l') = false := by rw [h3]; simp
  by_cases h4 : n = n'
  case neg =>
    have t4 : ((n : Int) != (n' : Int)) = true := by rw [bne_iff_ne]; omega
    have HV := Lib.hid (HNO.out (fun h => h4 h.2.2.2.1))
    clear h1 h2 h3 h4 HNO HYE
    go_wp2_with fail
    go_ret
    exact ⟨by rw [HV.out]; rfl, HB.out⟩
  subst h4
  have HALL := Lib.hid (fun (h : ∀ i, i < n → SameP (T i) (m i) (L i) (K i) (F i) (T' i) (m' i) (L' i) (K' i) (F' i)) => HYE.out ⟨h1, h2, h3, rfl, h⟩)
  have D3 := Lib.hid d3
  have E3 := Lib.hid e3
  have hsz := HB.out.size
  clear h1 h2 h3 HYE
  go_wp2_with fail
  clear d0 d1 d2 d3 e0 e1 e2 e3
  go_loopw [5] (fun iv wr => ∃ i : Nat, i ≤ n ∧ iv = .int .i64 i ∧ Hid (∀ u, u < i → SameP (T u) (m u) (L u) (K u) (F u) (T' u) (m' u) (L' u) (K' u) (F' u)) ∧ Below W.heap.size W wr) (fun iv _ => n - (intOf iv).toNat)
  case atStart => exact ⟨0, Nat.zero_le _, rfl, Lib.hid fun u hu => absurd hu (Nat.not_lt_zero _), Below.refl _ _⟩
  case round =>
    obtain ⟨i, hi, rfl, HP, hbl⟩ := hrel
    have hsw := hbl.size
    have d3 := cell_below hbl D3.out
    have e3 := cell_below hbl E3.out
    by_cases hlt : i < n
    · obtain ⟨b, off, u, v, rfl, c0, c1, hT, hK, hr⟩ := (HR.out.below HB.out).below hbl i hlt
      obtain ⟨b', off', u', v', rfl, c0', c1', -, -, hr'⟩ := (HR'.out.below HB.out).below hbl i hlt
      have hii : (i : Int) < (n : Int) := by omega
      have hii0 : (0 : Int) ≤ (i : Int) := by omega
      obtain ⟨Bi, hBi⟩ : ∃ Bi : Bool, Bi = true ↔ SameP (T i) (m i) (L i) (K i) (F i) (T' i) (m' i) (L' i) (K' i) (F' i) := by
        by_cases hs : SameP (T i) (m i) (L i) (K i) (F i) (T' i) (m' i) (L' i) (K' i) (F' i)
        · exact ⟨true, ⟨fun _ => hs, fun _ => rfl⟩⟩
        · exact ⟨false, ⟨fun h => (by cases h), fun h => absurd h hs⟩⟩
      have HS := Lib.hid (fun wv (h1 : RunR wv (.agg #[u, v]) (T i) (m i) (L i) (K i) (F i)) (h2 : RunR wv (.agg #[u', v']) (T' i) (m' i) (L' i) (K' i) (F' i)) => SameRun_any _ _ _ _ _ _ _ _ _ _ _ _ wv h1 h2 hT hK Bi hBi)
      have HQ := Lib.hid hr
      have HQ' := Lib.hid hr'
      have HBL := Lib.hid hbl
      have HPN : Hid (Bi = true → ∀ u, u < i + 1 → SameP (T u) (m u) (L u) (K u) (F u) (T' u) (m' u) (L' u) (K' u) (F' u)) := Lib.hid fun h0 u hu => by
        rcases Nat.lt_succ_iff_lt_or_eq.1 hu with h1 | rfl
        · exact HP.out u h1
        · exact hBi.1 h0
      have HBAD : Hid (Bi = false → B = false) := Lib.hid fun h0 => HNO.out (fun q => by rw [hBi.2 (q.2.2.2.2 i hlt)] at h0; cases h0)
      clear hr hr' hbl HP hBi hT hK
      go_wp2_with fail
      go_region_held3 (fun x => x.cell? ⟨w.heap.size, 3, none⟩ = some (.slice (some ⟨b, off, none⟩) n c) ∧ x.cell? ⟨w.heap.size + 1, 3, none⟩ = some (.slice (some ⟨b', off', none⟩) n c') ∧ x.cell? ⟨b, off + i * 2, none⟩ = some u ∧ x.cell? ⟨b, off + i * 2 + 1, none⟩ = some v ∧ x.cell? ⟨b', off' + i * 2, none⟩ = some u' ∧ x.cell? ⟨b', off' + i * 2 + 1, none⟩ = some v') (first | exact ⟨d3, e3, c0, c1, c0', c1'⟩ | exact ⟨by assumption, by assumption, by assumption, by assumption, by assumption, by assumption⟩)
        (first | (go_at_call 20; refine (HS.out _ (by exact HQ.out) (by exact HQ'.out)).mono ?_; rintro e w3 ⟨rfl, hb1⟩; have HB3 : Hid (Below wr.heap.size wr w3) := Lib.hid ⟨hb1.os, hb1.tape, hb1.output, hb1.size, hb1.block⟩; have d3 := cell_below HB3.out d3; have e3 := cell_below HB3.out e3; have c0 := cell_below HB3.out c0; have c1 := cell_below HB3.out c1; have c0' := cell_below HB3.out c0'; have c1' := cell_below HB3.out c1'; clear hb1))
      cases Bi with
      | true =>
        have HP := Lib.hid (HPN.out rfl)
        have HB4 := Lib.hid (HBL.out.trans (HB3.out.mono HBL.out.size))
        clear HPN HBAD
        go_wp2_with fail
        go_roundw
        case rel => exact ⟨i + 1, by omega, by go_num, HP, HB4.out⟩
        case measure => simp [intOf]; omega
      | false =>
        have HV := Lib.hid (HBAD.out rfl)
        have HB4 := Lib.hid (HB.out.trans ((HBL.out.trans (HB3.out.mono HBL.out.size)).mono hsz))
        clear HPN HBAD
        go_wp2_with fail
        go_ret
        exact ⟨by rw [HV.out]; rfl, HB4.out⟩
    · obtain rfl : i = n := by omega
      have HV := Lib.hid (HALL.out HP.out)
      have HB2 := Lib.hid (HB.out.trans (hbl.mono hsz))
      clear hbl HP
      go_wp2_with fail
      go_ret
      exact ⟨by rw [HV.out]; rfl, HB2.out⟩
end Go.Proofs.Ytgnkeecjaffnaaa
