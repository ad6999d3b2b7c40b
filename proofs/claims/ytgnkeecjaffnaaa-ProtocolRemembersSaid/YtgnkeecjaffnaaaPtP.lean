/-
  Plain facts of layer 54: the patterns of crashes, in the order of the program and of the reference.
-/
import Derived.Test.YtgnkeecjaffnaaaBase
import Derived.Test.YtgnkeecjaffnaaaRow
namespace Go.Proofs.Ytgnkeecjaffnaaa
open Go.RowKit

/-- What may happen in a round to process i: to whom its last messages go. -/
def chT (i r u : Nat) : List (Nat × Nat) := ((List.range u).filter fun q => !q.testBit i).map fun q => (r, q)
/-- .. in the first r rounds, and in the next one up to u. -/
def chP (n i r u : Nat) : List (Nat × Nat) := ((List.range r).flatMap fun t => chT i (t + 1) (2 ^ n)) ++ chT i (r + 1) u
def chs (n R i : Nat) : List (Nat × Nat) := (List.range R).flatMap fun t => chT i (t + 1) (2 ^ n)
theorem chP_round (n i r : Nat) : chP n i r (2 ^ n) = chP n i (r + 1) 0 := by
  unfold chP
  rw [List.range_succ, List.flatMap_append]
  simp [chT]
theorem chP_end (n i r : Nat) : chP n i r 0 = chs n r i := by unfold chP chs chT; simp
theorem chP_yes {n i r u : Nat} (h : u.testBit i = false) : chP n i r (u + 1) = chP n i r u ++ [(r + 1, u)] := by
  unfold chP chT
  rw [List.range_succ, List.filter_append, List.map_append, List.append_assoc]
  simp [h]
theorem chP_no {n i r u : Nat} (h : u.testBit i = true) : chP n i r (u + 1) = chP n i r u := by
  unfold chP chT
  rw [List.range_succ, List.filter_append]
  simp [h]
/-- The patterns that are gone through from a list, with d processes and so many crashes left. -/
def pgen (n R : Nat) : Nat → Nat → List (Nat × Nat) → List (List (Nat × Nat))
  | 0, _, l => [l]
  | d + 1, left, l => pgen n R d left (l ++ [(0, 0)]) ++ if left = 0 then [] else (chs n R l.length).flatMap fun c => pgen n R d (left - 1) (l ++ [c])
/-- What is there behind a call of the closure: at most 65. -/
def pT (n R d left : Nat) (l : List (Nat × Nat)) (rs : List (List (Nat × Nat))) : List (List (Nat × Nat)) := (rs ++ pgen n R d left l).take 65
def pK (n R d left : Nat) (l : List (Nat × Nat)) (rs : List (List (Nat × Nat))) (r u : Nat) : List (List (Nat × Nat)) :=
  (rs ++ (pgen n R d left (l ++ [(0, 0)]) ++ (chP n l.length r u).flatMap fun c => pgen n R d (left - 1) (l ++ [c]))).take 65
theorem take65 {α : Type} (a b : List α) : (a.take 65 ++ b).take 65 = (a ++ b).take 65 := by
  rw [List.take_append, List.take_append, List.take_take, Nat.min_self, List.length_take]
  by_cases h : 65 ≤ a.length
  · rw [Nat.min_eq_left h, Nat.sub_self, show 65 - a.length = 0 from by omega]
  · rw [Nat.min_eq_right (by omega)]
theorem pT_full {n R d left : Nat} {l : List (Nat × Nat)} {rs : List (List (Nat × Nat))} (h : rs.length = 65) : pT n R d left l rs = rs := by
  unfold pT; rw [List.take_append_of_le_length (by omega), List.take_of_length_le (by omega)]
theorem pT_leaf {n R left : Nat} {l : List (Nat × Nat)} {rs : List (List (Nat × Nat))} (h : rs.length ≤ 64) : pT n R 0 left l rs = rs ++ [l] := by
  unfold pT pgen; rw [List.take_of_length_le (by simp; omega)]
theorem pT_zero {n R d : Nat} {l : List (Nat × Nat)} {rs : List (List (Nat × Nat))} : pT n R (d + 1) 0 l rs = pT n R d 0 (l ++ [(0, 0)]) rs := by
  unfold pT; conv => lhs; unfold pgen
  rw [if_pos rfl, List.append_nil]
theorem pK_zero {n R d left : Nat} {l : List (Nat × Nat)} {rs : List (List (Nat × Nat))} : pK n R d left l rs 0 0 = pT n R d left (l ++ [(0, 0)]) rs := by
  unfold pK pT chP chT; simp
theorem pK_round {n R d left r : Nat} {l : List (Nat × Nat)} {rs : List (List (Nat × Nat))} : pK n R d left l rs r (2 ^ n) = pK n R d left l rs (r + 1) 0 := by
  unfold pK; rw [chP_round]
theorem pK_end {n R d left : Nat} {l : List (Nat × Nat)} {rs : List (List (Nat × Nat))} (h : left ≠ 0) : pK n R d left l rs R 0 = pT n R (d + 1) left l rs := by
  unfold pK pT; rw [chP_end]; conv => rhs; unfold pgen
  rw [if_neg h]
theorem pK_yes {n R d left r u : Nat} {l : List (Nat × Nat)} {rs : List (List (Nat × Nat))} (h : u.testBit l.length = false) : pK n R d left l rs r (u + 1) = pT n R d (left - 1) (l ++ [(r + 1, u)]) (pK n R d left l rs r u) := by
  unfold pK pT
  rw [chP_yes h, take65, List.flatMap_append, ← List.append_assoc, ← List.append_assoc, ← List.append_assoc]
  simp
theorem pK_no {n R d left r u : Nat} {l : List (Nat × Nat)} {rs : List (List (Nat × Nat))} (h : u.testBit l.length = true) : pK n R d left l rs r (u + 1) = pK n R d left l rs r u := by
  unfold pK; rw [chP_no h]
theorem pT_le (n R d left : Nat) (l : List (Nat × Nat)) (rs : List (List (Nat × Nat))) : (pT n R d left l rs).length ≤ 65 := by unfold pT; simp; omega
theorem pK_le (n R d left : Nat) (l : List (Nat × Nat)) (rs : List (List (Nat × Nat))) (r u : Nat) : (pK n R d left l rs r u).length ≤ 65 := by unfold pK; simp; omega
/-- Each pattern has an element for each process. -/
theorem pgen_len {n R : Nat} : ∀ (d left : Nat) (l x : List (Nat × Nat)), x ∈ pgen n R d left l → x.length = l.length + d
  | 0, _, l, x, h => by unfold pgen at h; simp at h; rw [h]; rfl
  | d + 1, left, l, x, h => by
    unfold pgen at h
    rw [List.mem_append] at h
    rcases h with h | h
    · have := pgen_len d left _ x h
      rw [this]; simp; omega
    · by_cases h0 : left = 0
      · rw [if_pos h0] at h; cases h
      · rw [if_neg h0, List.mem_flatMap] at h
        obtain ⟨c, _, h⟩ := h
        have := pgen_len d (left - 1) _ x h
        rw [this]; simp; omega
/-- .. and its rounds and lists of receivers are small. -/
def patOk (n R : Nat) (l : List (Nat × Nat)) : Prop := ∀ (i : Nat) (c : Nat × Nat), l[i]? = some c → c.1 ≤ R ∧ c.2 < 2 ^ n ∧ c.2.testBit i = false ∧ (c.1 = 0 → c.2 = 0)
theorem patOk_snoc {n R : Nat} {l : List (Nat × Nat)} {c : Nat × Nat} (h : patOk n R l) (h1 : c.1 ≤ R) (h2 : c.2 < 2 ^ n) (h3 : c.2.testBit l.length = false) (h4 : c.1 = 0 → c.2 = 0) : patOk n R (l ++ [c]) := fun i d hd => by
  by_cases hi : i < l.length
  · rw [List.getElem?_append_left hi] at hd; exact h i d hd
  · rw [List.getElem?_append_right (by omega)] at hd
    have : i = l.length := by
      have := (List.getElem?_eq_some_iff.1 hd).1
      simp at this; omega
    subst this
    simp at hd
    subst hd
    exact ⟨h1, h2, h3, h4⟩
theorem chs_mem {n R i : Nat} {c : Nat × Nat} (h : c ∈ chs n R i) : 1 ≤ c.1 ∧ c.1 ≤ R ∧ c.2 < 2 ^ n ∧ c.2.testBit i = false := by
  unfold chs chT at h
  rw [List.mem_flatMap] at h
  obtain ⟨t, ht, h⟩ := h
  rw [List.mem_map] at h
  obtain ⟨q, h1, rfl⟩ := h
  rw [List.mem_filter] at h1
  rw [List.mem_range] at ht h1
  exact ⟨by show 1 ≤ t + 1; omega, by show t + 1 ≤ R; omega, h1.1, by simpa using h1.2⟩
theorem pgen_ok {n R : Nat} : ∀ (d left : Nat) (l x : List (Nat × Nat)), patOk n R l → x ∈ pgen n R d left l → patOk n R x
  | 0, _, l, x, hl, h => by unfold pgen at h; simp at h; rw [h]; exact hl
  | d + 1, left, l, x, hl, h => by
    unfold pgen at h
    rw [List.mem_append] at h
    rcases h with h | h
    · exact pgen_ok d left _ x (patOk_snoc hl (Nat.zero_le _) (Nat.two_pow_pos n) (Nat.zero_testBit _) (fun _ => rfl)) h
    · by_cases h0 : left = 0
      · rw [if_pos h0] at h; cases h
      · rw [if_neg h0, List.mem_flatMap] at h
        obtain ⟨c, hc, h⟩ := h
        have hm := chs_mem hc
        exact pgen_ok d (left - 1) _ x (patOk_snoc hl hm.2.1 hm.2.2.1 hm.2.2.2 (fun h0 => by omega)) h
/-- The patterns of n processes. -/
def pats (n R F : Nat) : List (List (Nat × Nat)) := pgen n R n F []
end Go.Proofs.Ytgnkeecjaffnaaa
