/-
  Texts of this claim, one after the other: what each proves is said at its head. No condition beyond those that its theorems name.
-/
import Derived.Test.YtahaimecchdfeaaProg
import Derived.Test.YtahaimecchdfeaaG01
import Derived.Test.YtahaimecchdfeaaG02

/-
  Plain facts on graphs: a shortest way to a point with another fact.
-/
namespace Go.Proofs.Ytahaimecchdfeaa
open Go.RowKit

/-- A walk of so many steps. -/
def walkN (R : Nat → Nat → Bool) (s : Nat) : Nat → Nat → Prop
  | 0, k => k = s
  | n + 1, k => ∃ j, walkN R s n j ∧ R j k = true
/-- The state of the search: what came before each known point (-1 at the start), how far it is, and the queue. -/
structure ChB (R : Nat → Nat → Bool) (N s : Nat) (fac : Nat → Bool) (bef : Nat → Option Int) (dep : Nat → Nat) (q : List Nat) : Prop where
  st : bef s = some (-1) ∧ dep s = 0
  sN : s < N
  kn : ∀ k, k ∈ q → k < N ∧ (bef k).isSome = true
  up : ∀ k v, bef k = some v → (k = s ∧ v = -1) ∨ k ≠ s ∧ ∃ j : Nat, v = (j : Int) ∧ (bef j).isSome = true ∧ R j k = true ∧ dep k = dep j + 1
  lt : ∀ k, (bef k).isSome = true → k < N
  min : ∀ k, (bef k).isSome = true → ∀ m, walkN R s m k → dep k ≤ m
  shut : ∀ j, (bef j).isSome = true → j ∉ q → fac j = fac s ∧ ∀ k, R j k = true → (bef k).isSome = true
  srt : ∀ i r, q = i :: r → (∀ b, b ∈ q → dep i ≤ dep b ∧ dep b ≤ dep i + 1) ∧ r.Pairwise (fun a b => dep a ≤ dep b)
theorem ChB.start (R : Nat → Nat → Bool) {N s : Nat} (fac : Nat → Bool) (hs : s < N) : ChB R N s fac (fun k => if k = s then some (-1) else none) (fun _ => 0) [s] := by
  refine ⟨⟨if_pos rfl, rfl⟩, hs, fun k hk => ?_, fun k v hv => ?_, fun k hk => ?_, fun k _ m _ => Nat.zero_le _, fun j hj hn => ?_, fun i r e => ?_⟩
  · rw [List.mem_singleton] at hk
    subst hk
    exact ⟨hs, by simp⟩
  · by_cases e : k = s
    · rw [if_pos e] at hv
      injection hv with hv
      exact .inl ⟨e, hv.symm⟩
    · rw [if_neg e] at hv
      cases hv
  · by_cases e : k = s
    · rw [e]; exact hs
    · rw [if_neg e] at hk
      cases hk
  · by_cases e : j = s
    · exact absurd (by rw [e]; simp) hn
    · rw [if_neg e] at hj
      cases hj
  · injection e with e1 e2
    subst e1 e2
    exact ⟨fun b _ => ⟨Nat.le_refl _, Nat.zero_le _⟩, List.Pairwise.nil⟩
/-- A walk to a point that is not known goes through the queue. -/
theorem ChB.far {R : Nat → Nat → Bool} {N s : Nat} {fac : Nat → Bool} {bef : Nat → Option Int} {dep : Nat → Nat} {q : List Nat} (h : ChB R N s fac bef dep q) : ∀ m x, walkN R s m x → (bef x).isSome = false → ∃ v, v ∈ q ∧ dep v + 1 ≤ m
  | 0, x, hw, hx => by
    have e : x = s := hw
    rw [e, h.st.1] at hx
    cases hx
  | m + 1, x, ⟨j, hj, hR⟩, hx => by
    cases hk : (bef j).isSome
    · obtain ⟨v, h1, h2⟩ := h.far m j hj hk
      exact ⟨v, h1, by omega⟩
    · by_cases hq : j ∈ q
      · exact ⟨j, hq, by have := h.min j hk m hj; omega⟩
      · rw [(h.shut j hk hq).2 x hR] at hx
        cases hx
/-- One point more. -/
theorem ChB.add {R : Nat → Nat → Bool} {N s i x : Nat} {fac : Nat → Bool} {bef : Nat → Option Int} {dep : Nat → Nat} {r : List Nat} (h : ChB R N s fac bef dep (i :: r)) (hR : R i x = true) (hx : x < N) (hn : (bef x).isSome = false) :
    ∃ dep', ChB R N s fac (fun k => if k = x then some (i : Int) else bef k) dep' (i :: r ++ [x]) ∧ dep' i = dep i := by
  have hik := (h.kn i (by simp)).2
  have hxs : x ≠ s := fun e => by rw [e, h.st.1] at hn; cases hn
  have hxi : x ≠ i := fun e => by rw [e, hik] at hn; cases hn
  have hne : ∀ k, (bef k).isSome = true → k ≠ x := fun k hk e => by rw [e, hn] at hk; cases hk
  have hsort := h.srt i r rfl
  have hnew : ∀ k, ((if k = x then some (i : Int) else bef k)).isSome = true ↔ k = x ∨ (bef k).isSome = true := fun k => by
    by_cases e : k = x
    · rw [if_pos e]; simp [e]
    · rw [if_neg e]; simp [e]
  have hmin : ∀ m, walkN R s m x → dep i + 1 ≤ m := fun m hw => by
    obtain ⟨v, h1, h2⟩ := h.far m x hw hn
    have := (hsort.1 v h1).1
    omega
  refine ⟨fun k => if k = x then dep i + 1 else dep k, ⟨⟨by rw [if_neg hxs.symm]; exact h.st.1, by rw [if_neg hxs.symm]; exact h.st.2⟩, h.sN, fun k hk => ?_, fun k v hv => ?_, fun k hk => ?_, fun k hk m hw => ?_, fun j hj hq => ?_, fun i' r' e => ?_⟩, if_neg hxi.symm⟩
  · rcases List.mem_append.1 hk with h1 | h1
    · exact ⟨(h.kn k h1).1, (hnew k).2 (.inr (h.kn k h1).2)⟩
    · rw [List.mem_singleton] at h1
      exact ⟨by omega, (hnew k).2 (.inl h1)⟩
  · by_cases e : k = x
    · rw [if_pos e] at hv
      injection hv with hv
      subst e
      exact .inr ⟨hxs, i, hv.symm, (hnew i).2 (.inr hik), hR, by rw [if_pos rfl, if_neg hxi.symm]⟩
    · rw [if_neg e] at hv
      rcases h.up k v hv with h1 | ⟨h1, j, h2, h3, h4, h5⟩
      · exact .inl h1
      · exact .inr ⟨h1, j, h2, (hnew j).2 (.inr h3), h4, by rw [if_neg e, if_neg (hne j h3)]; exact h5⟩
  · rcases (hnew k).1 hk with h1 | h1
    · omega
    · exact h.lt k h1
  · by_cases e : k = x
    · subst e
      rw [if_pos rfl]
      exact hmin m hw
    · rw [if_neg e]
      rcases (hnew k).1 hk with h1 | h1
      · exact absurd h1 e
      · exact h.min k h1 m hw
  · rcases (hnew j).1 hj with h1 | h1
    · exact absurd (by rw [h1]; simp) hq
    · obtain ⟨h2, h3⟩ := h.shut j h1 fun h4 => hq (List.mem_append_left _ h4)
      exact ⟨h2, fun k hk => (hnew k).2 (.inr (h3 k hk))⟩
  · have e1 : i' = i ∧ r' = r ++ [x] := by
      rw [List.cons_append] at e
      injection e with e1 e2
      exact ⟨e1.symm, e2.symm⟩
    obtain ⟨rfl, rfl⟩ := e1
    have hk : ∀ b, b ∈ i' :: r → b ≠ x := fun b hb => hne b (h.kn b hb).2
    refine ⟨fun b hb => ?_, ?_⟩
    · rw [if_neg hxi.symm]
      rcases List.mem_append.1 hb with h1 | h1
      · rw [if_neg (hk b h1)]
        exact hsort.1 b h1
      · rw [List.mem_singleton] at h1
        rw [if_pos h1]
        omega
    · rw [List.pairwise_append]
      refine ⟨hsort.2.imp_of_mem fun {a b} ha hb h1 => ?_, List.pairwise_singleton _ _, fun a ha b hb => ?_⟩
      · rw [if_neg (hk a (List.mem_cons_of_mem _ ha)), if_neg (hk b (List.mem_cons_of_mem _ hb))]
        exact h1
      · rw [List.mem_singleton] at hb
        rw [if_pos hb, if_neg (hk a (List.mem_cons_of_mem _ ha))]
        exact (hsort.1 a (List.mem_cons_of_mem _ ha)).2
/-- What is known behind some neighbours of a point. -/
def befF (bef : Nat → Option Int) (i : Nat) (l : List Nat) (k : Nat) : Option Int := match bef k with | some v => some v | none => if k ∈ l then some (i : Int) else none
def befS (bef : Nat → Option Int) (k : Nat) : Bool := (bef k).isSome
theorem befF_some (bef : Nat → Option Int) (i : Nat) (l : List Nat) (k : Nat) : (befF bef i l k).isSome = true ↔ (bef k).isSome = true ∨ k ∈ l := by
  unfold befF
  cases h : bef k with
  | some v => simp
  | none => by_cases e : k ∈ l <;> simp [e]
theorem befF_nil (bef : Nat → Option Int) (i k : Nat) : befF bef i [] k = bef k := by
  unfold befF
  cases h : bef k <;> simp
theorem befF_snoc (bef : Nat → Option Int) (i x : Nat) (l : List Nat) (k : Nat) : befF bef i (l ++ [x]) k = if (befF bef i l x).isSome then befF bef i l k else if k = x then some (i : Int) else befF bef i l k := by
  by_cases hx : (befF bef i l x).isSome = true
  · rw [if_pos hx]
    have hx2 := (befF_some bef i l x).1 hx
    unfold befF
    cases h : bef k with
    | some v => rfl
    | none =>
      dsimp only
      by_cases e : k = x
      · subst e
        rcases hx2 with h1 | h1
        · rw [h] at h1; cases h1
        · rw [if_pos (List.mem_append_left _ h1), if_pos h1]
      · simp [e]
  · rw [if_neg hx]
    have hx2 : ¬ ((bef x).isSome = true ∨ x ∈ l) := fun h => hx ((befF_some bef i l x).2 h)
    by_cases e : k = x
    · subst e
      rw [if_pos rfl]
      unfold befF
      cases h : bef k with
      | some v => exact absurd (.inl (by rw [h]; rfl)) hx2
      | none => simp
    · rw [if_neg e]
      unfold befF
      cases h : bef k with
      | some v => rfl
      | none => simp [e]
theorem befF_fst (bef : Nat → Option Int) (i : Nat) (q l : List Nat) (k : Nat) : (bfsF (befS bef) q l).1 k = (befF bef i l k).isSome := by
  rw [Bool.eq_iff_iff, bfsF_fst, befF_some]
  exact Iff.rfl
theorem ChB.fold {R : Nat → Nat → Bool} {N s i : Nat} {fac : Nat → Bool} {bef : Nat → Option Int} {dep : Nat → Nat} {r : List Nat} (h : ChB R N s fac bef dep (i :: r)) (l : List Nat) : (∀ k, k ∈ l → R i k = true ∧ k < N) →
    ∃ dep' r', (bfsF (befS bef) (i :: r) l).2 = i :: r' ∧ ChB R N s fac (befF bef i l) dep' (i :: r') := by
  refine snoc_rec (p := fun l => (∀ k, k ∈ l → R i k = true ∧ k < N) → ∃ dep' r', (bfsF (befS bef) (i :: r) l).2 = i :: r' ∧ ChB R N s fac (befF bef i l) dep' (i :: r')) (fun _ => ?_) (fun l x ih hl => ?_) l
  · have e : befF bef i [] = bef := funext fun k => befF_nil bef i k
    exact ⟨dep, r, rfl, by rw [e]; exact h⟩
  · obtain ⟨dep', r', e, hc⟩ := ih fun k hk => hl k (List.mem_append_left _ hk)
    have hx := hl x (by simp)
    rw [bfsF_snoc, befF_fst bef i]
    by_cases hk : (befF bef i l x).isSome = true
    · have e2 : befF bef i (l ++ [x]) = befF bef i l := funext fun k => by rw [befF_snoc, if_pos hk]
      rw [if_pos hk, e2]
      exact ⟨dep', r', e, hc⟩
    · have e2 : befF bef i (l ++ [x]) = fun k => if k = x then some (i : Int) else befF bef i l k := funext fun k => by rw [befF_snoc, if_neg hk]
      rw [if_neg hk, e2]
      obtain ⟨dep2, h2, -⟩ := hc.add hx.1 hx.2 (by simpa using hk)
      exact ⟨dep2, r' ++ [x], by show _ ++ [x] = _; rw [e]; rfl, h2⟩
/-- The head is done. -/
theorem ChB.pop {R : Nat → Nat → Bool} {N s i : Nat} {fac : Nat → Bool} {bef : Nat → Option Int} {dep : Nat → Nat} {r : List Nat} (h : ChB R N s fac bef dep (i :: r)) (hf : fac i = fac s) (hR : ∀ k, R i k = true → (bef k).isSome = true) : ChB R N s fac bef dep r := by
  have hs := h.srt i r rfl
  refine ⟨h.st, h.sN, fun k hk => h.kn k (List.mem_cons_of_mem _ hk), h.up, h.lt, h.min, fun j hj hq => ?_, fun a r' e => ?_⟩
  · by_cases e : j = i
    · rw [e]; exact ⟨hf, hR⟩
    · exact h.shut j hj fun h1 => (List.mem_cons.1 h1).elim e hq
  · subst e
    rw [List.pairwise_cons] at hs
    have ha := hs.1 a (by simp)
    refine ⟨fun b hb => ?_, hs.2.2⟩
    have h1 := (hs.1 b (List.mem_cons_of_mem _ hb)).2
    rcases List.mem_cons.1 hb with rfl | h2
    · omega
    · exact ⟨hs.2.1 b h2, by omega⟩
/-- The way back to the start. -/
def BackL (bef : Nat → Option Int) (s : Nat) : List Nat → Prop
  | [] => False
  | [k] => k = s ∧ bef k = some (-1)
  | k :: j :: l => bef k = some (j : Int) ∧ BackL bef s (j :: l)
theorem ChB.back {R : Nat → Nat → Bool} {N s : Nat} {fac : Nat → Bool} {bef : Nat → Option Int} {dep : Nat → Nat} {q : List Nat} (h : ChB R N s fac bef dep q) : ∀ d k, dep k = d → (bef k).isSome = true → ∃ l, BackL bef s (k :: l) ∧ l.length = d ∧ ∀ j, j ∈ k :: l → j < N
  | 0, k, hd, hk => by
    obtain ⟨v, hv⟩ := Option.isSome_iff_exists.1 hk
    rcases h.up k v hv with ⟨h1, h2⟩ | ⟨_, j, _, _, _, h5⟩
    · exact ⟨[], ⟨h1, by rw [hv, h2]⟩, rfl, fun j hj => by rw [List.mem_singleton] at hj; rw [hj]; exact h.lt k hk⟩
    · omega
  | d + 1, k, hd, hk => by
    obtain ⟨v, hv⟩ := Option.isSome_iff_exists.1 hk
    rcases h.up k v hv with ⟨h1, h2⟩ | ⟨_, j, h2, h3, h4, h5⟩
    · have := h.st.2
      rw [h1] at hd
      omega
    · obtain ⟨l, hl, hlen, hN⟩ := h.back d j (by omega) h3
      refine ⟨j :: l, ⟨by rw [hv, h2], hl⟩, by simp [hlen], fun i hi => ?_⟩
      rcases List.mem_cons.1 hi with rfl | h6
      · exact h.lt i hk
      · exact hN i h6
/-- A chain, from the start to a point with another fact, of least length. -/
structure ChOk (R : Nat → Nat → Bool) (N s : Nat) (fac : Nat → Bool) (l : List Nat) : Prop where
  head : l.head? = some s
  lt : ∀ k, k ∈ l → k < N
  link : ∀ t i k, l[t]? = some i → l[t + 1]? = some k → R i k = true
  last : ∃ i, l.getLast? = some i ∧ fac i ≠ fac s
  least : ∀ m k, walkN R s m k → fac k ≠ fac s → l.length ≤ m + 1
theorem BackL.last {bef : Nat → Option Int} {s : Nat} : ∀ {l : List Nat}, BackL bef s l → l.getLast? = some s
  | [k], h => by rw [h.1]; rfl
  | k :: j :: l, h => by
    have := BackL.last h.2
    rw [List.getLast?_cons_cons]
    exact this
theorem BackL.links {R : Nat → Nat → Bool} {N s : Nat} {fac : Nat → Bool} {bef : Nat → Option Int} {dep : Nat → Nat} {q : List Nat} (h : ChB R N s fac bef dep q) : ∀ {l : List Nat}, BackL bef s l → ∀ t i k, l[t]? = some i → l[t + 1]? = some k → R k i = true
  | [a], _, t, i, k, h1, h2 => by simp at h2
  | a :: j :: l, hb, 0, i, k, h1, h2 => by
    have e1 : a = i := by simpa using h1
    have e2 : j = k := by simpa using h2
    subst e1 e2
    rcases h.up a _ hb.1 with ⟨_, h3⟩ | ⟨_, j', h3, _, h4, _⟩
    · omega
    · have : j = j' := by omega
      rw [this]; exact h4
  | a :: j :: l, hb, t + 1, i, k, h1, h2 => BackL.links h hb.2 t i k (by simpa using h1) (by simpa using h2)
theorem ChB.found {R : Nat → Nat → Bool} {N s i : Nat} {fac : Nat → Bool} {bef : Nat → Option Int} {dep : Nat → Nat} {r l : List Nat} (h : ChB R N s fac bef dep (i :: r)) (hf : fac i ≠ fac s) (hl : BackL bef s (i :: l)) (hlen : l.length = dep i) (hN : ∀ j, j ∈ i :: l → j < N) :
    ChOk R N s fac (i :: l).reverse := by
  refine ⟨by rw [List.head?_reverse]; exact hl.last, fun k hk => hN k (List.mem_reverse.1 hk), fun t a b h1 h2 => ?_, ⟨i, by rw [List.getLast?_reverse]; rfl, hf⟩, fun m k hw hk => ?_⟩
  · have hlt := (List.getElem?_eq_some_iff.1 h2).1
    rw [List.length_reverse] at hlt
    rw [List.getElem?_reverse (by omega)] at h1 h2
    obtain ⟨u, hu⟩ : ∃ u, u = (i :: l).length - 1 - (t + 1) := ⟨_, rfl⟩
    rw [← hu] at h2
    rw [show (i :: l).length - 1 - t = u + 1 by omega] at h1
    exact BackL.links h hl u b a h2 h1
  · rw [List.length_reverse, List.length_cons, hlen]
    have hs := h.srt i r rfl
    cases hkn : (bef k).isSome
    · obtain ⟨v, h1, h2⟩ := h.far m k hw hkn
      have := (hs.1 v h1).1
      omega
    · by_cases hq : k ∈ i :: r
      · have h1 := (hs.1 k hq).1
        have h2 := h.min k hkn m hw
        omega
      · exact absurd (h.shut k hkn hq).1 hk
/-- All has been looked at. -/
theorem ChB.none {R : Nat → Nat → Bool} {N s : Nat} {fac : Nat → Bool} {bef : Nat → Option Int} {dep : Nat → Nat} (h : ChB R N s fac bef dep []) : ∀ m k, walkN R s m k → fac k = fac s := by
  have hk : ∀ m k, walkN R s m k → (bef k).isSome = true := fun m => by
    induction m with
    | zero => rintro k rfl; rw [h.st.1]; rfl
    | succ m ih =>
      rintro k ⟨j, hj, hR⟩
      exact (h.shut j (ih j hj) (by simp)).2 k hR
  exact fun m k hw => (h.shut k (hk m k hw) (by simp)).1
theorem BackL.desc {R : Nat → Nat → Bool} {N s : Nat} {fac : Nat → Bool} {bef : Nat → Option Int} {dep : Nat → Nat} {q : List Nat} (h : ChB R N s fac bef dep q) : ∀ {l : List Nat} {k : Nat}, BackL bef s (k :: l) → ∀ x, x ∈ l → dep x < dep k
  | j :: l, k, hb, x, hx => by
    have e : dep k = dep j + 1 := by
      rcases h.up k _ hb.1 with ⟨_, h3⟩ | ⟨_, j', h3, _, _, h5⟩
      · omega
      · have : j = j' := by omega
        rw [this]; exact h5
    rcases List.mem_cons.1 hx with rfl | h1
    · omega
    · have := BackL.desc h hb.2 x h1
      omega
theorem BackL.len {R : Nat → Nat → Bool} {N s : Nat} {fac : Nat → Bool} {bef : Nat → Option Int} {dep : Nat → Nat} {q : List Nat} (h : ChB R N s fac bef dep q) : ∀ {l : List Nat}, (l = [] ∨ BackL bef s l) → (∀ k, k ∈ l → k < N) → unf N (fun k => l.contains k) + l.length ≤ N
  | [], _, _ => by
    unfold unf
    refine Nat.le_trans (Nat.add_le_add_right (List.length_filter_le _ _) _) ?_
    simp
  | k :: l, hb, hN => by
    have hb1 := hb.resolve_left (List.cons_ne_nil _ _)
    have ih := BackL.len h (l := l) (by
      cases l with
      | nil => exact .inl rfl
      | cons j l => exact .inr hb1.2) fun x hx => hN x (List.mem_cons_of_mem _ hx)
    have hk : l.contains k = false := by
      rw [← Bool.not_eq_true, List.contains_iff_mem]
      intro hm
      have := BackL.desc h hb1 k hm
      omega
    have h1 := unf_add (N := N) (x := k) (S := fun x => l.contains x) (hN k (by simp)) hk
    have e : (fun x => l.contains x || x == k) = fun x => (k :: l).contains x := funext fun x => by
      rw [List.contains_cons, Bool.or_comm]
    rw [e] at h1
    rw [List.length_cons]
    omega
end Go.Proofs.Ytahaimecchdfeaa
