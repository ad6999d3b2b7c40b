/-
  Plain facts of layer 54: the runs of the lossy channel obey the protocol; runs that a call owns, read.
-/
import Derived.Test.YtgnkeecjaffnaaaProg
import Derived.Test.YtgnkeecjaffnaaaBase
import Derived.Test.YtgnkeecjaffnaaaRow
import Derived.Test.YtgnkeecjaffnaaaRowsOf
import Derived.Test.YtgnkeecjaffnaaaPc
import Derived.Test.YtgnkeecjaffnaaaPd
import Derived.Test.YtgnkeecjaffnaaaPrP
import Derived.Test.YtgnkeecjaffnaaaPrB
import Derived.Test.YtgnkeecjaffnaaaPrE
import Derived.Test.YtgnkeecjaffnaaaPrG
import Derived.Test.YtgnkeecjaffnaaaPrI
import Derived.Test.YtgnkeecjaffnaaaPrJ
import Derived.Test.YtgnkeecjaffnaaaPrL
import Derived.Test.YtgnkeecjaffnaaaPrN
namespace Go.Proofs.Ytgnkeecjaffnaaa
open Go.RowKit

theorem gen_mem {snd : Int → Int → Int} {bit : Int} : ∀ (d : Nat) (l x : List Int), (∀ k, k < l.length → 0 ≤ lf l k ∧ lf l k ≤ 3) → x ∈ gen snd bit d l → x.length = l.length + d ∧ ∀ k, k < x.length → 0 ≤ lf x k ∧ lf x k ≤ 3
  | 0, l, x, hl, h => by
    unfold gen at h
    have : x = l := by simpa using h
    subst this
    exact ⟨rfl, hl⟩
  | d + 1, l, x, hl, h => by
    unfold gen at h
    rw [List.mem_flatMap] at h
    obtain ⟨y, hy, h⟩ := h
    split at h
    · have hy3 : 0 ≤ y ∧ y ≤ 3 := by
        simp only [List.mem_cons, List.not_mem_nil, or_false] at hy
        omega
      have := gen_mem d (l ++ [y]) x (by rw [List.length_append]; exact lf_snoc hl hy3) h
      refine ⟨?_, this.2⟩
      rw [this.1, List.length_append]; simp; omega
    · cases h
theorem los_mem {snd : Int → Int → Int} {T : Nat} {p : Int × List Int} (h : p ∈ losRs snd T) : (p.1 = 0 ∨ p.1 = 1) ∧ p.2.length = T ∧ ∀ k, k < T → 0 ≤ lf p.2 k ∧ lf p.2 k ≤ 3 := by
  have key : ∀ bit rs, p ∈ genT snd bit T [] rs → p ∈ rs ∨ (p.1 = bit ∧ p.2.length = T ∧ ∀ k, k < T → 0 ≤ lf p.2 k ∧ lf p.2 k ≤ 3) := fun bit rs h => by
    unfold genT at h
    have h := List.mem_of_mem_take h
    rw [List.mem_append, List.mem_map] at h
    rcases h with h | ⟨x, hx, rfl⟩
    · exact .inl h
    · have := gen_mem T [] x (fun k hk => absurd hk (Nat.not_lt_zero _)) hx
      have e : x.length = T := by rw [this.1]; simp
      exact .inr ⟨rfl, e, fun k hk => this.2 k (by rw [e]; exact hk)⟩
  unfold losRs at h
  rcases key 1 _ h with h | h
  · rcases key 0 _ h with h | h
    · cases h
    · exact ⟨.inl h.1, h.2⟩
  · exact ⟨.inr h.1, h.2⟩
theorem rule_range {R : Int} {fa fh fm : Nat → Int} {k : Nat} (h : rulE R fa fh fm k = 0) : 1 ≤ fm k ∧ fm k ≤ 3 := by
  unfold rulE at h
  by_cases h1 : 0 ≤ tmV (fa k) (fh k) ∧ tmV (fa k) (fh k) < R ∧ 1 ≤ fm k ∧ fm k ≤ 3
  · exact h1.2.2
  · rw [if_neg h1] at h; cases h
theorem firstErr_all {n : Nat} {f : Nat → Nat} (h : firstErr n f = 0) : ∀ k, k < n → f k = 0 := by
  induction n with
  | zero => exact fun k hk => absurd hk (Nat.not_lt_zero _)
  | succ n ih =>
    intro k hk
    unfold firstErr at h
    by_cases h0 : firstErr n f = 0
    · rcases Nat.lt_succ_iff_lt_or_eq.1 hk with h1 | rfl
      · exact ih h0 k h1
      · simp [h0] at h; exact h
    · simp [h0] at h
theorem snd_range {R : Int} {n : Nat} {fa fh fm : Nat → Int} (h : exErr R n fa fh fm = 0) (a x : Int) : 0 ≤ sndV n fa fh fm a x ∧ sndV n fa fh fm a x ≤ 3 := by
  have hall : ∀ k, k < n → 1 ≤ fm k ∧ fm k ≤ 3 := by
    unfold exErr at h
    split at h
    · split at h
      · exact fun k hk => rule_range (firstErr_all h k hk)
      · cases h
    · cases h
  have key : ∀ m, m ≤ n → 0 ≤ (sndP m fa fh fm a x).getD 0 ∧ (sndP m fa fh fm a x).getD 0 ≤ 3 := fun m => by
    induction m with
    | zero => exact fun _ => ⟨Int.le_refl _, by show (0 : Int) ≤ 3; decide⟩
    | succ m ih =>
      intro hm
      have ih := ih (by omega)
      unfold sndP
      cases hp : sndP m fa fh fm a x with
      | some z => rw [hp] at ih; exact ih
      | none =>
        by_cases hy : fa m = a ∧ fh m = x
        · rw [if_pos hy]
          have := hall m (by omega)
          show 0 ≤ fm m ∧ fm m ≤ 3
          omega
        · rw [if_neg hy]; exact ⟨Int.le_refl _, by show (0 : Int) ≤ 3; decide⟩
  exact key n (Nat.le_refl _)
theorem tm_at1 {h k : Nat} (hk : k ≤ 5) (h4 : h / 4 ^ k = 4) : tmV 1 (h : Int) = k := by
  have hle : h / 4 ^ k ≤ h := Nat.div_le_self _ _
  have h0 : tmV 1 (h : Int) = tmN 1 h := by
    have : ¬ ((1 : Int) < 0 ∨ (1 : Int) < 1 ∨ (h : Int) < 4) := by omega
    unfold tmV; rw [if_neg this]; rfl
  have hb : ∀ s, s < k → 6 ≤ h / 4 ^ s := fun s hs => by
    obtain ⟨d, rfl⟩ : ∃ d, k = s + 1 + d := ⟨k - s - 1, by omega⟩
    have h1 := div_pow_le h (s + 1) d
    have h2 := div_pow_succ h s
    generalize h / 4 ^ (s + 1 + d) = x at h1 h4
    generalize h / 4 ^ (s + 1) = y at h1 h2
    generalize h / 4 ^ s = z at h2 ⊢
    omega
  rw [h0, tm_end rfl (by omega) hb, if_pos ⟨.inl h4, hk⟩]
/-- The second agent's histories begin with 4. -/
theorem second_four {snd : Int → Int → Int} {bit : Int} {lost : Nat → Int} (hs : ∀ a h, 0 ≤ snd a h ∧ snd a h ≤ 3) : ∀ k : Nat, ∃ y : Nat, (rrS snd bit lost k).2 = y ∧ y / 4 ^ k = 4
  | 0 => ⟨4, rfl, by simp⟩
  | k + 1 => by
    obtain ⟨y, hy, h4⟩ := second_four (bit := bit) (lost := lost) hs k
    obtain ⟨v, hv⟩ : ∃ v, v = (if lost k % 2 = 1 then 0 else snd 0 (rrS snd bit lost k).1) := ⟨_, rfl⟩
    have hv3 : 0 ≤ v ∧ v ≤ 3 := by
      rw [hv]
      have := hs 0 (rrS snd bit lost k).1
      split
      · omega
      · exact this
    refine ⟨4 * y + v.toNat, ?_, by rw [div_step (by omega)]; exact h4⟩
    show 4 * (rrS snd bit lost k).2 + (if lost k % 2 = 1 then 0 else snd 0 (rrS snd bit lost k).1) = _
    rw [← hv, hy]; omega
/-- In each run an agent receives what the other one sends, or nothing. -/
theorem obey {snd : Int → Int → Int} {bit : Int} {lost : Nat → Int} {T k : Nat} (hs : ∀ a h, 0 ≤ snd a h ∧ snd a h ≤ 3) (hb : 0 ≤ bit ∧ bit ≤ 1) (hl : ∀ k, k < T → 0 ≤ lost k ∧ lost k ≤ 3) (hk : k + 1 ≤ T) (hT : T ≤ 4) :
    (runL snd bit lost (k + 1) 0 - 4 * runL snd bit lost k 0 = 0 ∨ runL snd bit lost (k + 1) 0 - 4 * runL snd bit lost k 0 = snd 1 (runL snd bit lost k 1)) ∧
    (runL snd bit lost (k + 1) 1 - 4 * runL snd bit lost k 1 = 0 ∨ runL snd bit lost (k + 1) 1 - 4 * runL snd bit lost k 1 = snd 0 (runL snd bit lost k 0)) ∧
    0 ≤ tmV 0 (runL snd bit lost k 0) ∧ 0 ≤ tmV 1 (runL snd bit lost k 1) := by
  obtain ⟨e0, x, y, hx, hy, hx4, hy4⟩ := run_same hs hb hl k (by omega) (by omega)
  obtain ⟨e1, -⟩ := run_same hs hb hl (k + 1) hk (by omega)
  obtain ⟨y', hy', hy44⟩ := second_four (bit := bit) (lost := lost) hs k
  have hyy : y' = y := by omega
  subst hyy
  unfold runL
  rw [e0, e1]
  have r1 : (rrS snd bit lost (k + 1)).1 = 4 * (rrS snd bit lost k).1 + (if lost k / 2 = 1 then 0 else snd 1 (rrS snd bit lost k).2) := rfl
  have r2 : (rrS snd bit lost (k + 1)).2 = 4 * (rrS snd bit lost k).2 + (if lost k % 2 = 1 then 0 else snd 0 (rrS snd bit lost k).1) := rfl
  simp only [if_true, show (1 : Nat) = 0 ↔ False from by decide, if_false]
  refine ⟨?_, ?_, ?_, ?_⟩
  · rw [r1]; split <;> omega
  · rw [r2]; split <;> omega
  · rw [hx, tm_at (by omega) hx4]; omega
  · rw [hy, tm_at1 (by omega) hy44]; omega
/-! ### runs that a call owns, read -/
def ppR (ps : List (Int × List Int)) (i : Nat) : Int × List Int := ps.getD i (0, [])
theorem ppR_mem {ps : List (Int × List Int)} {i : Nat} (h : i < ps.length) : ppR ps i ∈ ps := by
  unfold ppR; rw [List.getD_eq_getElem?_getD, List.getElem?_eq_getElem h]; exact List.getElem_mem _
theorem los_read {w : World} {base : Nat} {vR : Value} {snd : Int → Int → Int} {ps : List (Int × List Int)} (h : RunsO w base vR (ps.map (mkR snd))) (hl : ∀ p, p ∈ ps → p.2.length ≤ 60000 ∧ p.1.toNat < 18446744073709551616) :
    ∃ A c, vR = .slice A ps.length c ∧ RunsR w A ps.length (fun i => (ppR ps i).2.length + 1) (fun _ _ => 2) (fun i => runL snd (ppR ps i).1 (lf (ppR ps i).2)) (fun i => (ppR ps i).2.length + 1) (fun i _ => (ppR ps i).1.toNat) := by
  obtain ⟨rows, ho, hr⟩ := h
  rw [List.length_map] at ho
  obtain ⟨A, c, rfl, hc⟩ := own_form' ho
  refine ⟨A, c, rfl, fun i hi => ?_⟩
  have hp := hl _ (ppR_mem hi)
  obtain ⟨u, v, e1, e2, hd⟩ := hr i (mkR snd (ppR ps i)) (by rw [List.getElem?_map, List.getElem?_eq_getElem hi]; unfold ppR; rw [List.getD_eq_getElem?_getD, List.getElem?_eq_getElem hi]; rfl)
  obtain ⟨b, rfl, -, -, h1⟩ := hc (i * 2) (by omega)
  obtain ⟨b', hb, -, -, h2⟩ := hc (i * 2 + 1) (by omega)
  injection hb with hb
  injection hb with hb _ _
  subst hb
  exact ⟨b, 0, u, v, rfl, by rw [Nat.zero_add]; exact h1.trans e1, by rw [Nat.zero_add]; exact h2.trans e2, by show (ppR ps i).2.length + 1 ≤ 65536; omega, by show (ppR ps i).2.length + 1 ≤ 65536; omega, RunO.read hd (fun _ _ => by show 2 ≤ _; decide) (fun t j _ _ => runL_range _ _ _ _ _) (fun _ _ => hp.2)⟩
end Go.Proofs.Ytgnkeecjaffnaaa
