/-
  Walks of layer 54: Losses of the reference; rows of ints that a call owns; an append of a row.
-/
import Derived.Test.YtgnkeecjaffnaaaProg
import Derived.Test.YtgnkeecjaffnaaaBase
import Derived.Test.YtgnkeecjaffnaaaRow
import Derived.Test.YtgnkeecjaffnaaaRowsOf
import Derived.Test.YtgnkeecjaffnaaaPc
import Derived.Test.YtgnkeecjaffnaaaPd
import Derived.Test.YtgnkeecjaffnaaaPrF
import Derived.Test.YtgnkeecjaffnaaaPyP
import Derived.Laws.AppendOwnNone
import Derived.Laws.OwnMore
namespace Go.Proofs.Ytgnkeecjaffnaaa
open Go.RowKit

/-- Append of all that a row of the call's own holds, nil or not. -/
theorem wpList_append_row {P : Program} {w : World} {ops : Array Oper} {rest : List Oper} {o : Oper} {a : Act} {Q : Exit → Act → World → Prop} (hgd : o.guard = none) (s x : Operand) (t : TypeId)
    (ho : o.op = .call { callee := .builtin .append, args := #[s, x], argTypes := #[t, t] })
    (base : Nat) (e : TypeId) (i : TypeInfo) (z : Value) (size bytes : Nat) (ht : P.underlying t = some (.slice e)) (hi : P.info? e = some i) (hz : i.zero = some z)
    (hsize : i.size = size) (hby : i.bytes = bytes) (hzs : z.cells.size = size) (hsz : 0 < size)
    (v : Value) (n : Nat) (xs : List Value) (hs : a.eval s = v) (hown : w.ownsRow base e size v n xs)
    (base' : Nat) (rv : Value) (m : Nat) (ys : List Value) (hx : a.eval x = rv) (hrow : w.ownsRow base' e size rv m ys) (h1 : ∀ u ∈ ys, u.oneCell' = true)
    (h63 : n + m ≤ maxLen) (hbytes : (n + m) * bytes ≤ 140737488355328) (hbase : base ≤ w.heap.size)
    (h : ∀ v' w', w'.ownsRow base e size v' (n + m) (xs ++ ys) → w.grownBy w' v.ownBlock → wpList P ops Q rest (a.put o.dst v') w') :
    wpList P ops Q (o :: rest) a w := by
  rcases hrow.2 with ⟨h0, hm0⟩ | ⟨g, cap, cur, h0, -⟩
  · subst hm0
    have hy : ys = [] := List.eq_nil_of_length_eq_zero (by rw [hrow.1, Nat.zero_mul])
    subst hy
    refine wpList_append_own_none hgd s x t ho base e i size ht hi v n xs hs hown (hx.trans h0) (h v w ?_ ⟨rfl, rfl, rfl, Nat.le_refl _, fun _ _ _ => rfl⟩)
    rw [List.append_nil]; exact hown
  · subst h0
    exact wpList_append_own_at w hgd s x t ho base e i z size bytes ht hi hz hsize hby hzs hsz v n xs hs hown ⟨g, 0, none⟩ m cap ys hx hrow.1 (hrow.cells (g := g) rfl) h1 h63 hbytes hbase fun v' w' a1 a2 _ _ => h v' w' a1 a2
theorem i64_one (f : Nat → Int) (n : Nat) : ∀ u ∈ i64L f n, u.oneCell' = true := by
  intro u hu
  unfold i64L at hu
  obtain ⟨k, _, rfl⟩ := List.mem_map.1 hu
  rfl
theorem own_zero (w : World) (e : TypeId) {base : Nat} (hb : base ≤ w.heap.size) : (w.alloc (.cells #[] e)).ownsRow base e 1 (.slice (some ⟨w.heap.size, 0, none⟩) 0 0) 0 [] :=
  ⟨rfl, .inr ⟨w.heap.size, 0, #[], rfl, hb, heap_alloc_new w _, Nat.le_refl _, by decide, rfl, rfl⟩⟩
/-- Rows of ints, owned. -/
def LsO (w : World) (base : Nat) (v : Value) (ls : List (List Int)) : Prop :=
  ∃ rows, w.ownsRow base 38 1 v ls.length rows ∧ ∀ (i : Nat) (l : List Int), ls[i]? = some l → ∃ rv, rows[i]? = some rv ∧ w.ownsRow base 3 1 rv l.length (i64L (lf l) l.length)
section
variable {w w1 : World} {base : Nat} {v v' : Value} {ls : List (List Int)}
theorem LsO.nil (w : World) (base : Nat) : LsO w base (.slice none 0 0) [] := ⟨[], World.ownsRow_nil _ _ _ _, fun i d h => by simp at h⟩
theorem LsO.keeps (h : LsO w base v ls) (h0 : Keeps w w1 38) (h1 : Keeps w w1 3) : LsO w1 base v ls := by
  obtain ⟨rows, ho, hr⟩ := h
  exact ⟨rows, own_keeps ho h0, fun i d hi => let ⟨x, e1, h⟩ := hr i d hi; ⟨x, e1, own_keeps h h1⟩⟩
theorem LsO.below (h : LsO w base v ls) (hb : Below w.heap.size w w1) : LsO w1 base v ls := h.keeps (.of_below hb _) (.of_below hb _)
theorem LsO.mono {base' : Nat} (h : LsO w base v ls) (hb : base' ≤ base) : LsO w base' v ls := by
  obtain ⟨rows, ho, hr⟩ := h
  exact ⟨rows, own_mono' ho hb, fun i d hi => let ⟨x, e1, h⟩ := hr i d hi; ⟨x, e1, own_mono' h hb⟩⟩
theorem LsO.push {rows : List Value} {rv : Value} {l : List Int} {o : Obj} (ho : w.ownsRow base 38 1 v ls.length rows)
    (hr : ∀ (i : Nat) (l : List Int), ls[i]? = some l → ∃ rv, rows[i]? = some rv ∧ w.ownsRow base 3 1 rv l.length (i64L (lf l) l.length)) (hd : w.ownsRow base 3 1 rv l.length (i64L (lf l) l.length))
    (hown : w1.ownsRow base 38 1 v' (ls.length + 1) (rows ++ [rv])) (hg : (w.alloc o).grownBy w1 v.ownBlock) : LsO w1 base v' (ls ++ [l]) := by
  have hb := below_alloc w o
  have K : Keeps w w1 3 := (Keeps.of_below hb _).trans (Keeps.of_grown hg (own_alloc' ho o) (by decide))
  have hlen := ho.1
  refine ⟨rows ++ [rv], by rw [List.length_append]; exact hown, fun i d' hi => ?_⟩
  by_cases h1 : i < ls.length
  · rw [List.getElem?_append_left h1] at hi
    obtain ⟨x', e1, h⟩ := hr i d' hi
    exact ⟨x', by rw [List.getElem?_append_left (by omega)]; exact e1, own_keeps h K⟩
  · rw [List.getElem?_append_right (by omega)] at hi
    have h2 : i = ls.length := by
      have := (List.getElem?_eq_some_iff.1 hi).1
      simp at this
      omega
    subst h2
    simp at hi
    subst hi
    exact ⟨rv, by rw [List.getElem?_append_right (by omega)]; simp [hlen], own_keeps hd K⟩
/-- A row, and the cell that holds it. -/
theorem LsO.at (h : LsO w base v ls) {i : Nat} {l : List Int} (hi : ls[i]? = some l) : ∃ b c rv, v = .slice (some ⟨b, 0, none⟩) ls.length c ∧ w.cell? ⟨b, i, none⟩ = some rv ∧ w.ownsRow base 3 1 rv l.length (i64L (lf l) l.length) := by
  obtain ⟨rows, ho, hr⟩ := h
  obtain ⟨rv, h1, h2⟩ := hr i l hi
  obtain ⟨A, c, rfl, hA⟩ := own_form ho
  obtain ⟨b, rfl, _, _, hc⟩ := hA i (List.getElem?_eq_some_iff.1 hi).1
  rw [Nat.zero_add] at hc
  exact ⟨b, c, rv, rfl, hc.trans h1, h2⟩
end
/-- The lists that the loop over the lists of t masks has made. -/
def nxt (T i m : Nat) : List (List Int) := (((allL T []).take i).flatMap fun x => ([0, 2, 1, 3] : List Int).map fun y => x ++ [y]) ++ ((([0, 2, 1, 3] : List Int).take m).map fun y => ((allL T []).getD i []) ++ [y])
theorem nxt_start (T i : Nat) : nxt T i 0 = ((allL T []).take i).flatMap fun x => ([0, 2, 1, 3] : List Int).map fun y => x ++ [y] := by unfold nxt; simp
theorem nxt_step {T i m : Nat} {l : List Int} {x : Int} (hl : (allL T [])[i]? = some l) (hx : ([0, 2, 1, 3] : List Int)[m]? = some x) : nxt T i (m + 1) = nxt T i m ++ [l ++ [x]] := by
  unfold nxt
  rw [List.take_add_one, hx, List.map_append, ← List.append_assoc, List.getD_eq_getElem?_getD, hl]; rfl
theorem nxt_four {T i : Nat} {l : List Int} (hl : (allL T [])[i]? = some l) : nxt T i 4 = nxt T (i + 1) 0 := by
  rw [nxt_start, List.take_add_one, hl, List.flatMap_append]
  unfold nxt
  rw [List.getD_eq_getElem?_getD, hl]; simp
theorem nxt_end (T : Nat) : nxt T (allL T []).length 0 = allL (T + 1) [] := by
  rw [nxt_start, allL_snoc, List.take_of_length_le (Nat.le_refl _)]
theorem allL_len : ∀ (d : Nat) (l : List Int), (allL d l).length = 4 ^ d
  | 0, _ => rfl
  | d + 1, l => by
    simp only [allL, List.flatMap_cons, List.flatMap_nil, List.length_append, List.length_nil, allL_len d]
    rw [Nat.pow_succ]; omega
theorem four_le {T : Nat} (h : T ≤ 4) : 4 ^ T ≤ 256 := Nat.pow_le_pow_right (n := 4) (j := 4) (by decide) h
theorem nxt_len {T i m : Nat} (hT : T ≤ 4) (hm : m ≤ 4) : (nxt T i m).length ≤ 1028 := by
  unfold nxt
  rw [List.length_append, List.length_flatMap, List.length_map, List.length_take]
  have h1 : (((allL T []).take i).map fun x => ((([0, 2, 1, 3] : List Int).map fun y => x ++ [y]).length)).sum = 4 * ((allL T []).take i).length := by
    generalize (allL T []).take i = zs
    induction zs with
    | nil => rfl
    | cons z zs ih => rw [List.map_cons, List.sum_cons, ih, List.length_cons]; simp; omega
  rw [h1, List.length_take, allL_len]
  have := four_le hT
  omega
/-- The start: the nil list alone. -/
theorem LsO.one (w : World) (base : Nat) (hb : base ≤ w.heap.size) : LsO (w.alloc (.cells #[.slice none 0 0] 38)) base (.slice (some ⟨w.heap.size, 0, none⟩) 1 1) [[]] :=
  ⟨[.slice none 0 0], own_one (Blk.new w _ _) hb, fun i l h => by
    have hi : i = 0 := by
      have := (List.getElem?_eq_some_iff.1 h).1
      simp at this; omega
    subst hi
    have : l = [] := by simpa using h.symm
    subst this
    exact ⟨_, rfl, World.ownsRow_nil _ _ _ _⟩⟩
set_option maxHeartbeats 4000000 in
theorem Losses_any (T : Nat) (w : World) (hT : T ≤ 4) : Calls Try.prog 53 #[.int .i64 T] w fun e w' => ∃ v, e = .returned v ∧ LsO w' w.heap.size v (allL T []) ∧ Below w.heap.size w w' := by
  go_enter Try.func53, Try.ntmps53
  go_upto_region 2 with (fail)
  have HL := Lib.hid (LsO.one w w.heap.size (Nat.le_refl _))
  have HB := Lib.hid (below_alloc w (.cells #[.slice none 0 0] 38))
  generalize w.alloc (.cells #[.slice none 0 0] 38) = W at HL HB ⊢
  have hw0 := HB.out.size
  generalize Value.slice (some ⟨w.heap.size, 0, none⟩) 1 1 = ov0 at HL ⊢
  go_wp2_with fail
  go_loopw [3, 4] (fun uv tv wr => ∃ t : Nat, t ≤ T ∧ tv = .int .i64 t ∧ LsO wr w.heap.size uv (allL t []) ∧ Below w.heap.size w wr) (fun _ tv _ => T - (intOf tv).toNat)
  case atStart => exact ⟨0, Nat.zero_le _, rfl, HL.out, HB.out⟩
  case round =>
    clear HL HB hw0
    obtain ⟨t, ht, rfl, hls, hbl⟩ := hrel
    have HLS := Lib.hid hls
    have HBL := Lib.hid hbl
    by_cases hlt : t < T
    · have ht4 : t ≤ 4 := by omega
      have hpw := four_le ht4
      have hlen := allL_len t []
      obtain ⟨gO, cO, rfl⟩ : ∃ g c, u3 = .slice (some ⟨g, 0, none⟩) (allL t []).length c := by
        have h0 : 0 < 4 ^ t := Nat.pow_pos (by decide)
        obtain ⟨l, hl⟩ : ∃ l, (allL t [])[0]? = some l := ⟨_, List.getElem?_eq_getElem (by omega)⟩
        obtain ⟨b, c, _, e, _⟩ := hls.at hl
        exact ⟨b, c, e⟩
      obtain ⟨NL, eNL⟩ : ∃ n, n = (allL t []).length := ⟨_, rfl⟩
      rw [← eNL] at HLS hlen ⊢
      have ENL := Lib.hid eNL
      have hNL : NL ≤ 256 := by omega
      clear hlen hpw
      have hsV := hbl.size
      obtain ⟨V0, eW⟩ : ∃ V0, V0 = wr := ⟨_, rfl⟩
      subst eW
      clear hls hbl eNL
      go_wp2_with fail
      go_loopw [5, 6] (fun nv iv wx => ∃ i : Nat, i ≤ NL ∧ iv = .int .i64 i ∧ LsO wx V0.heap.size nv (nxt t i 0) ∧ Below V0.heap.size V0 wx) (fun _ iv _ => NL - (intOf iv).toNat)
      case atStart => exact ⟨0, Nat.zero_le _, rfl, LsO.nil _ _, Below.refl _ _⟩
      case round =>
        obtain ⟨i, hi, rfl, hnx, hbx⟩ := hrel
        by_cases hlti : i < NL
        · obtain ⟨l, hl⟩ : ∃ l, (allL t [])[i]? = some l := ⟨_, List.getElem?_eq_getElem (by rw [← ENL.out]; exact hlti)⟩
          have hlt4 : l.length ≤ 4 := by rw [(all_mem (List.mem_of_getElem? hl)).1]; exact ht4
          have HLL := Lib.hid hl
          obtain ⟨V1, eV1⟩ : ∃ V1, V1 = wr := ⟨_, rfl⟩
          subst eV1
          have HNX := Lib.hid hnx
          have HBX := Lib.hid hbx
          have hii : (i : Int) < (NL : Int) := by omega
          clear hnx hbx hl
          go_upto_region 10 with (fail)
          obtain ⟨V, hVe⟩ : ∃ V, V = V1.alloc (.cells #[.int .i64 0, .int .i64 2, .int .i64 1, .int .i64 3] 3) := ⟨_, rfl⟩
          have hbm := Blk.new V1 #[.int .i64 0, .int .i64 2, .int .i64 1, .int .i64 3] 3
          have hbv := below_alloc V1 (.cells #[.int .i64 0, .int .i64 2, .int .i64 1, .int .i64 3] 3)
          have HNX := Lib.hid (HNX.out.below hbv)
          have HBX := Lib.hid (below_trans HBX.out hbv)
          rw [← hVe] at hbm HNX HBX ⊢
          have HBM := Lib.hid hbm
          clear hbm hbv hVe
          generalize V1.heap.size = bm at HBM ⊢
          go_loopw [5, 23] (fun nv mv wx => ∃ m : Nat, m ≤ 4 ∧ mv = .int .i64 m ∧ LsO wx V0.heap.size nv (nxt t i m) ∧ Blk wx bm 3 #[.int .i64 0, .int .i64 2, .int .i64 1, .int .i64 3] ∧ Below V0.heap.size V0 wx) (fun _ mv _ => 4 - (intOf mv).toNat)
          case atStart => exact ⟨0, Nat.zero_le _, rfl, HNX.out, HBM.out, HBX.out⟩
          case round =>
            clear HNX HBM HBX
            obtain ⟨m, hm, rfl, hnx, hbm, hbz⟩ := hrel
            have hnl := nxt_len (i := i) (m := m) ht4 hm
            by_cases hlm : m < 4
            · obtain ⟨x, hx1, hx2, hx0, hx3⟩ := mask_at hlm
              have m0 := hbm.cell hx2
              have hLO := HLS.out.below hbz
              obtain ⟨bO, cO', rv, eO, cl0, hrow⟩ := hLO.at HLL.out
              injection eO with eO1 eO2 eO3
              injection eO1 with eO1
              injection eO1 with eO1 _ _
              subst eO1
              clear eO2 eO3
              obtain ⟨rows, ho, hr⟩ := hnx
              have hmm : (m : Int) < 4 := by omega
              have hsz := hbz.size
              have HROW := Lib.hid hrow
              have HO := Lib.hid ho
              have HR := Lib.hid hr
              have HBZ := Lib.hid hbz
              have HBM := Lib.hid hbm
              have HST := Lib.hid (nxt_step HLL.out hx1)
              obtain ⟨AN, cN, rfl, -⟩ := own_form ho
              have cl1 := cell_below (below_alloc wr (.cells #[] 3)) cl0
              clear hx1 hx2 hx0 hx3 hbz hLO hrow ho hr hbm
              go_wp2_with (first
                | (have hq := HOW2.out; at_builtin; obtain ⟨i0, hi, hz0, hz1, hz2⟩ := info_parts Try.infoInts; refine wpList_append_own_at _ rfl _ _ 27 rfl V0.heap.size 38 i0 (.slice none 0 0) 1 24 Try.underlying27 hi hz0 hz1 hz2 rfl (by decide) _ _ _ rfl (own_alloc' HO2.out _) ⟨w2.heap.size, 0, none⟩ 1 1 [.slice A2 (l.length + 1) c2] rfl rfl (cell_one_new _ _ _) (one_oneCell rfl) (by unfold maxLen; omega) (by omega) (by simp; omega) ?_; intro v3 w3 hown3 hg3 _ _; have HOW3 := Lib.hid hown3; have HG3 := Lib.hid hg3; clear hown3 hg3 hq hi hz0 hz1 hz2)
                | (have hq := HOW1.out; at_builtin; obtain ⟨i0, hi, hz0, hz1, hz2⟩ := info_parts Try.infoInt; refine wpList_append_own_at _ rfl _ _ 38 rfl wr.heap.size 3 i0 (.int .i64 0) 1 8 Try.underlying38 hi hz0 hz1 hz2 rfl (by decide) v1 l.length _ rfl (own_alloc' hq _) ⟨w1.heap.size, 0, none⟩ 1 1 [.int .i64 x] rfl rfl (cell_one_new _ _ _) (one_oneCell rfl) (by unfold maxLen; omega) (by omega) (by simp; omega) ?_; intro v2 w2 hown2 hg2 _ _; rw [← lf_append] at hown2; obtain ⟨A2, c2, rfl, -⟩ := own_form hown2; have HOW2 := Lib.hid hown2; have HB2 := Lib.hid (below_append HB1.out rfl hq hg2); have hs2 := HB2.out.size; have HO2 := Lib.hid (own_below' HO.out HB2.out (Nat.le_refl _)); clear hown2 hg2 hq hi hz0 hz1 hz2)
                | (at_builtin; obtain ⟨i0, hi, hz0, hz1, hz2⟩ := info_parts Try.infoInt; refine wpList_append_row rfl _ _ 38 rfl wr.heap.size 3 i0 (.int .i64 0) 1 8 Try.underlying38 hi hz0 hz1 hz2 rfl (by decide) _ 0 [] rfl (own_zero wr 3 (Nat.le_refl _)) w.heap.size rv l.length (i64L (lf l) l.length) rfl (own_alloc' HROW.out _) (i64_one _ _) (by unfold maxLen; omega) (by omega) (by simp) ?_; intro v1 w1 hown1 hg1; rw [Nat.zero_add, List.nil_append] at hown1; have HOW1 := Lib.hid hown1; have HB1 := Lib.hid (below_grow (below_alloc wr _) (own_zero wr 3 (Nat.le_refl _)) hg1); have hs1 := HB1.out.size; clear hown1 hg1 hi hz0 hz1 hz2))
              go_roundw
              case rel =>
                exact ⟨m + 1, by omega, by go_num, by rw [HST.out]; exact LsO.push HO2.out (fun k l' hk => let ⟨z, h1, h2⟩ := HR.out k l' hk; ⟨z, h1, own_below' h2 HB2.out (Nat.le_refl _)⟩) (by rw [List.length_append]; exact own_mono' HOW2.out hsz) HOW3.out HG3.out, ((HBM.out.below HB2.out).alloc _).kept_row (own_alloc' HO2.out _) (by decide) HG3.out, below_append (below_trans HBZ.out HB2.out) rfl HO2.out HG3.out⟩
              case measure => simp [intOf]; omega
            · obtain rfl : m = 4 := by omega
              rw [nxt_four HLL.out] at hnx
              have HNX := Lib.hid hnx
              have HBZ := Lib.hid hbz
              clear hnx hbz hbm
              go_wp2_with fail
              go_roundw
              case rel => exact ⟨i + 1, by omega, by go_num, HNX.out, HBZ.out⟩
              case measure => simp [intOf]; omega
        · obtain rfl : i = NL := by omega
          rw [ENL.out, nxt_end] at hnx
          have HNX := Lib.hid hnx
          have HBX := Lib.hid (below_trans HBL.out hbx)
          clear hnx hbx
          go_wp2_with fail
          go_roundw
          case rel => exact ⟨t + 1, by omega, by go_num, HNX.out.mono hsV, HBX.out⟩
          case measure => simp [intOf]; omega
    · obtain rfl : t = T := by omega
      clear hls hbl
      go_wp2_with fail
      go_ret
      exact ⟨_, rfl, HLS.out, HBL.out⟩
end Go.Proofs.Ytgnkeecjaffnaaa
