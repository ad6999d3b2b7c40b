/-
  Texts of this claim, one after the other: what each proves is said at its head. No condition beyond those that its theorems name.
-/
import Derived.Test.YtahaimecchdfeaaProg
import Derived.Deep.DeepCutAuto
import Derived.Deep.RegionHeld3
import Derived.Test.YtahaimecchdfeaaH01
import Derived.Test.YtahaimecchdfeaaH02
import Derived.Test.YtahaimecchdfeaaH03

/-
  Walk: build.
-/
namespace Go.Proofs.Ytahaimecchdfeaa
open Go.RowKit

/-- A node whose operands lie further on. -/
def Nd.shift (k : Nat) : Nd → Nd
  | .T => .T
  | .F => .F
  | .N x => .N (x + k)
  | .C x y => .C (x + k) (y + k)
def catN (os : List (List Nd)) : List Nd := os.foldl (fun F l => F ++ l.map (Nd.shift F.length)) []
theorem catN_snoc (os : List (List Nd)) (l : List Nd) : catN (os ++ [l]) = catN os ++ l.map (Nd.shift (catN os).length) := by unfold catN; rw [List.foldl_append]; rfl
theorem Nd.shift_op (k : Nat) (n : Nd) : (n.shift k).op = n.op := by cases n <;> rfl
theorem Nd.shift_g (k : Nat) (n : Nd) : (n.shift k).g = n.g := by cases n <;> rfl
theorem Nd.shift_x (k : Nat) (n : Nd) : (n.shift k).x = if n.ux = true then n.x + k else n.x := by cases n <;> rfl
theorem Nd.shift_y (k : Nat) (n : Nd) : (n.shift k).y = if n.uy = true then n.y + k else n.y := by cases n <;> rfl
theorem Nd.xy (n : Nd) (h : n.ux = false) : n.uy = false := by cases n <;> first | rfl | cases h
/-- The operands as they lie. -/
def OpsR (w : World) (A : Option Addr) (os : List (List Nd)) : Prop :=
  ∀ (k : Nat) (l : List Nd), os[k]? = some l → ∃ b off fv, A = some ⟨b, off, none⟩ ∧ w.cell? ⟨b, off + k, none⟩ = some fv ∧ NdO w 0 fv l ∧ Can l
/-- In a round: the new list, the box of the node, the operand's own list. -/
structure BdI (w W : World) (fv : Value) (F : List Nd) (xs : Array Value) (cv : Value) (l : List Nd) : Prop where
  own : NdO W (w.heap.size + 1) fv F
  box : Blk W w.heap.size 108 xs
  low : Below w.heap.size w W
  big : w.heap.size + 1 ≤ W.heap.size
  cl : NdO W 0 cv l
  sep : ∀ q, cv.ownBlock = some q → fv.ownBlock ≠ some q
section
variable {w W W1 : World} {fv : Value} {F : List Nd} {xs : Array Value} {cv : Value} {l : List Nd}
theorem BdI.below (h : BdI w W fv F xs cv l) (hb : Below W.heap.size W W1) : BdI w W1 fv F xs cv l :=
  ⟨h.own.below hb, h.box.below hb, below_trans h.low hb, Nat.le_trans h.big hb.size, h.cl.below hb, h.sep⟩
theorem BdI.ne (h : BdI w W fv F xs cv l) : fv.ownBlock ≠ some w.heap.size := fun e => by
  have := (h.own.lt _ e).1
  omega
/-- Another block is written. -/
theorem BdI.set {tb : Nat} (h : BdI w W fv F xs cv l) (h1 : fv.ownBlock ≠ some tb) (h2 : cv.ownBlock ≠ some tb) (h3 : w.heap.size < tb) (k : Nat) (u : Value) : BdI w (W.setCell ⟨tb, k, none⟩ u) fv F xs cv l := by
  have hk := KeepRow.grown (gr_set W tb k u)
  refine ⟨own_keepRow h.own hk fun q hq e => h1 (by rw [hq]; exact e.symm), h.box.set_ne (by omega) k u, h.low.setCell (p := ⟨tb, k, none⟩) (by show w.heap.size ≤ tb; omega) u, by simpa [World.setCell] using h.big, own_keepRow h.cl hk fun q hq e => h2 (by rw [hq]; exact e.symm), h.sep⟩
/-- One node more. -/
theorem BdI.push {o : Obj} {w3 : World} {v' : Value} {n : Nd} (h : BdI w W fv F xs cv l) (hown : w3.ownsRow (w.heap.size + 1) 108 6 v' (F.length + 1) (ndL F ++ n.V)) (hg : (W.alloc o).grownBy w3 fv.ownBlock) (hloc : v'.ownBlock = fv.ownBlock ∨ v'.ownBlock = some (W.alloc o).heap.size) : BdI w w3 v' (F ++ [n]) xs cv l := by
  have hba := below_alloc W o
  have hso : (W.alloc o).heap.size = W.heap.size + 1 := by simp
  refine ⟨?_, (h.box.below hba).kept hg h.ne, ?_, ?_, ?_, fun q hq e => ?_⟩
  · unfold NdO
    rw [ndL_snoc, List.length_append]
    exact hown
  · exact (below_trans h.low hba).grown hg (below_trans h.low hba).size fun k hk => by have := (h.own.lt k hk).1; omega
  · have := h.big
    have := hg.size
    omega
  · exact own_keepRow (h.cl.below hba) (KeepRow.grown hg) fun q hq e => h.sep q hq e
  · rcases hloc with e2 | e2
    · exact h.sep q hq (e2 ▸ e)
    · rw [e2] at e
      have h3 := own_lt h.cl hq
      have := Option.some.inj e
      omega
end
def bdX (os : List (List Nd)) (i : Nat) : Nat := if i = 0 then 0 else (catN (os.take 1)).length - 1
def bdY (os : List (List Nd)) (i : Nat) : Nat := if i ≤ 1 then 0 else (catN (os.take i)).length - 1
def bdV (nd : Nd) (os : List (List Nd)) (i : Nat) : Array Value := #[.int .i64 nd.op, .int .i64 0, .int .i64 0, .int .i64 nd.g, .int .i64 (bdX os i), .int .i64 (bdY os i)]
/-- Before a round of the outer loop. -/
structure BdO (w W : World) (fv : Value) (nd : Nd) (os : List (List Nd)) (i : Nat) : Prop where
  own : NdO W (w.heap.size + 1) fv (catN (os.take i))
  box : Blk W w.heap.size 108 (bdV nd os i)
  low : Below w.heap.size w W
  big : w.heap.size + 1 ≤ W.heap.size
  len : (catN (os.take i)).length ≤ 200 * i
set_option maxHeartbeats 8000000 in
set_option maxRecDepth 100000 in
theorem build_any (nd : Nd) (os : List (List Nd)) (A : Option Addr) (c : Nat) (w : World) (ho : OpsR w A os) (hn : os.length ≤ 2) (hx : nd.x = bdX os os.length) (hy : nd.y = bdY os os.length) (hc : Can (catN os ++ [nd])) :
    Calls Try.prog 72 #[.agg #[.int .i64 nd.op, .int .i64 0, .int .i64 0, .int .i64 nd.g, .int .i64 0, .int .i64 0], .slice A os.length c] w fun e w' => ∃ v, e = .returned v ∧ NdO w' w.heap.size v (catN os ++ [nd]) ∧ Below w.heap.size w w' := by
  have HO := Lib.hid ho
  have HX := Lib.hid hx
  have HY := Lib.hid hy
  have HC := Lib.hid hc
  obtain ⟨n, en⟩ : ∃ n, n = os.length := ⟨_, rfl⟩
  have HN := Lib.hid en
  have hS : BdO w (w.alloc (.cells #[.int .i64 nd.op, .int .i64 0, .int .i64 0, .int .i64 nd.g, .int .i64 0, .int .i64 0] 108)) (.slice none 0 0) nd os 0 :=
    ⟨by rw [List.take_zero]; exact NdO.nil _ _, Blk.new w _ _, below_alloc _ _, by simp, by rw [List.take_zero]; exact Nat.le_refl 0⟩
  have HS := Lib.hid hS
  rw [← en] at hn ⊢
  clear ho hx hy hc hS en
  go_enter Try.func72, Try.ntmps72
  go_upto_region 3 with (fail)
  generalize w.alloc _ = W at HS ⊢
  go_loopw [5, 16] (fun fv iv wr => ∃ i : Nat, i ≤ n ∧ iv = .int .i64 i ∧ BdO w wr fv nd os i) (fun _ iv _ => n - (intOf iv).toNat)
  case atStart => exact ⟨0, Nat.zero_le _, rfl, HS.out⟩
  case round =>
    clear HS
    obtain ⟨i, hi, rfl, hb⟩ := hrel
    have HB := Lib.hid hb
    by_cases hlt : i < n
    · have hin : (i : Int) < (n : Int) := by omega
      obtain ⟨l, hl⟩ : ∃ l, os[i]? = some l := ⟨_, List.getElem?_eq_getElem (by rw [← HN.out]; exact hlt)⟩
      obtain ⟨b, off, ov, rfl, ho1, ho2, hcl⟩ := HO.out i l hl
      obtain ⟨Aq, cq, rfl⟩ := ho2.shape
      have a0 := cell_below hb.low ho1
      have HL := Lib.hid hl
      have HCK := Lib.hid (foCheck_any _ l 0 _ (ho2.below hb.low) hcl.ok hcl.pos hcl.len)
      have HCM := Lib.hid (fun X (hX : Below wr.heap.size wr X) => Compact_any _ l X ((ho2.below hb.low).below hX) hcl)
      obtain ⟨Af, cf, rfl⟩ := hb.own.shape
      have hlf := hb.len
      obtain ⟨F, eF⟩ : ∃ F, F = catN (os.take i) := ⟨_, rfl⟩
      rw [← eF] at hlf ⊢
      have HF := Lib.hid eF
      have hll := hcl.len
      have HCL := Lib.hid hcl
      have HCL := Lib.hid hcl
      have HCL := Lib.hid hcl
      have HCL := Lib.hid hcl
      have HCL := Lib.hid hcl
      have HCL := Lib.hid hcl
      clear hb hl ho1 ho2 hcl eF
      go_upto_region 6 with (go_at_call 74; refine HCK.out.mono ?_; rintro e w1 ⟨rfl, hb1⟩; have HB1 := Lib.hid hb1; clear hb1)
      go_upto_region 9 with (go_at_call 78; refine (HCM.out _ HB1.out).mono ?_; rintro e w2 ⟨v, rfl, ho, hb2⟩; obtain ⟨Ac, cc, rfl⟩ := ho.shape; have HOC := Lib.hid ho; have HB2 := Lib.hid (below_trans HB1.out hb2); clear ho hb2)
      have hI : BdI w w2 (.slice Af F.length cf) F (bdV nd os i) (.slice Ac l.length cc) l := ⟨by rw [HF.out]; exact own_below' HB.out.own HB2.out (Nat.le_refl _), HB.out.box.below HB2.out, below_trans HB.out.low HB2.out, Nat.le_trans HB.out.big HB2.out.size, HOC.out.mono (Nat.zero_le _), fun q hq e => by
        have h1 := (HOC.out.lt q hq).1
        have h2 := own_lt HB.out.own (HF.out ▸ e)
        have h3 := HB1.out.size
        omega⟩
      have HI0 := Lib.hid hI
      clear hI HB1 HCM HCK HOC a0
      go_loopw [5, 29] (fun gv jv wr => ∃ j : Nat, j ≤ l.length ∧ jv = .int .i64 j ∧ BdI w wr gv (F ++ (l.take j).map (Nd.shift F.length)) (bdV nd os i) (.slice Ac l.length cc) l) (fun _ jv _ => l.length - (intOf jv).toNat)
      case atStart => exact ⟨0, Nat.zero_le _, rfl, by simpa using HI0.out⟩
      case round =>
        clear HI0
        obtain ⟨j, hj, rfl, hi0⟩ := hrel
        have HJ := Lib.hid hi0
        by_cases hjl : j < l.length
        · have hjn : (j : Int) < (l.length : Int) := by omega
          obtain ⟨n1, hn1⟩ : ∃ n1, l[j]? = some n1 := ⟨_, List.getElem?_eq_getElem hjl⟩
          obtain ⟨bc, cap, ev, hcc⟩ := hi0.cl.at hn1
          injection ev with eA en ec
          subst eA ec
          obtain ⟨c0, c1, c2, c3, c4, c5⟩ := hcc
          obtain ⟨Ag, cg, rfl⟩ := hi0.own.shape
          obtain ⟨m, em⟩ : ∃ m, m = n1.shift F.length := ⟨_, rfl⟩
          have hsm := Nd.ok_small (HCL.out.ok j n1 hn1) (show j ≤ 65536 by omega)
          have HST := Lib.hid (show F ++ (l.take (j + 1)).map (Nd.shift F.length) = (F ++ (l.take j).map (Nd.shift F.length)) ++ [m] by rw [List.take_add_one, hn1, List.map_append, ← List.append_assoc, em]; rfl)
          have hgl : (F ++ (l.take j).map (Nd.shift F.length)).length ≤ 600 := by rw [List.length_append, List.length_map, List.length_take]; omega
          generalize F ++ (l.take j).map (Nd.shift F.length) = G at HJ HST hgl ⊢
          have HM := Lib.hid em
          have HMO := Lib.hid (show m.op = n1.op by rw [em, Nd.shift_op])
          have HMG := Lib.hid (show m.g = n1.g by rw [em, Nd.shift_g])
          have hwx : IntKind.i64.wrap ((n1.x : Int) + (F.length : Int)) = (n1.x : Int) + (F.length : Int) := by rw [IntKind.wrap_i64]; have := hsm.1; omega
          have hwy : IntKind.i64.wrap ((n1.y : Int) + (F.length : Int)) = (n1.y : Int) + (F.length : Int) := by rw [IntKind.wrap_i64]; have := hsm.2; omega
          clear hi0 hn1 em hsm en
          cases hux : n1.ux with
          | false =>
              have huy := n1.xy hux
              have hU : ∀ X, Calls Try.prog 91 #[.int .i64 n1.op] X fun e w' => e = .returned (.tuple #[.agg #[.bool false, .bool false, .bool n1.uf, .bool false, .bool n1.ug, .bool false, .int .i64 n1.fr], .bool true]) ∧ Below X.heap.size X w' := fun X => by
                have := uses_any n1 X
                rw [hux, huy] at this
                exact this
              have HUS := Lib.hid hU
              have HMX := Lib.hid (show m.x = n1.x by rw [HM.out, Nd.shift_x, hux]; rfl)
              have HMY := Lib.hid (show m.y = n1.y by rw [HM.out, Nd.shift_y, huy]; rfl)
              clear hU hux huy
              go_upto_region 11 with (fail)
              have ht0 : Blk (wr.alloc (.cells #[.int .i64 n1.op, .int .i64 0, .int .i64 0, .int .i64 n1.g, .int .i64 n1.x, .int .i64 n1.y] 108)) wr.heap.size 108 #[.int .i64 n1.op, .int .i64 0, .int .i64 0, .int .i64 n1.g, .int .i64 n1.x, .int .i64 n1.y] := Blk.new wr _ _
              have hba := below_alloc wr (.cells #[.int .i64 n1.op, .int .i64 0, .int .i64 0, .int .i64 n1.g, .int .i64 n1.x, .int .i64 n1.y] 108)
              have hnf : (Value.slice Ag G.length cg).ownBlock ≠ some wr.heap.size := fun e => by have := own_lt HJ.out.own e; omega
              have hnc : (Value.slice (some ⟨bc, 0, none⟩) l.length cc).ownBlock ≠ some wr.heap.size := fun e => by have := own_lt HJ.out.cl e; omega
              have htb : w.heap.size < wr.heap.size := by have := HJ.out.big; omega
              generalize wr.alloc (.cells #[.int .i64 n1.op, .int .i64 0, .int .i64 0, .int .i64 n1.g, .int .i64 n1.x, .int .i64 n1.y] 108) = wy at ht0 hba ⊢
              have HJ2 := Lib.hid (HJ.out.below hba)
              obtain ⟨tb, etb⟩ : ∃ b, b = wr.heap.size := ⟨_, rfl⟩
              rw [← etb] at ht0 hnf hnc htb ⊢
              have x0 := ht0.cell (k := 0) rfl
              have HT0 := Lib.hid ht0
              have HNF := Lib.hid hnf
              have HNC := Lib.hid hnc
              have HTB := Lib.hid htb
              clear hba ht0 hnf hnc htb etb HJ c0 c1 c2 c3 c4 c5
              go_upto_region 12 with (go_at_call 91; refine (HUS.out _).mono ?_; rintro e w4 ⟨rfl, hb1⟩; have HJ3 := Lib.hid (HJ2.out.below hb1); have HT1 := Lib.hid (HT0.out.below hb1); clear hb1)
              have hu0 := Blk.new w4 #[.bool false, .bool false, .bool n1.uf, .bool false, .bool n1.ug, .bool false, .int .i64 n1.fr] 135
              have hba := below_alloc w4 (.cells #[.bool false, .bool false, .bool n1.uf, .bool false, .bool n1.ug, .bool false, .int .i64 n1.fr] 135)
              have hut : w4.heap.size ≠ tb := fun e => by have := HT1.out.lt; omega
              generalize w4.alloc (.cells #[.bool false, .bool false, .bool n1.uf, .bool false, .bool n1.ug, .bool false, .int .i64 n1.fr] 135) = V at hu0 hba ⊢
              obtain ⟨ub, eub⟩ : ∃ b, b = w4.heap.size := ⟨_, rfl⟩
              rw [← eub] at hu0 hut ⊢
              have HI := Lib.hid (HJ3.out.below hba)
              have HT := Lib.hid (HT1.out.below hba)
              have HU := Lib.hid hu0
              have HUT := Lib.hid hut
              have u0 : V.cell? ⟨ub, 0, none⟩ = some (.bool false) := hu0.cell (k := 0) rfl
              clear x0 HJ2 HJ3 HT0 HT1 hu0 hba hut eub HUS
              have u1 : V.cell? ⟨ub, 1, none⟩ = some (.bool false) := HU.out.cell (k := 1) rfl
              go_upto_region 16 with (fail)
              clear u0 u1
              have hts : Blk V tb 108 #[.int .i64 n1.op, .int .i64 0, .int .i64 0, .int .i64 n1.g, .int .i64 n1.x, .int .i64 n1.y] := HT.out
              have HTS : Hid (Blk V tb 108 #[.int .i64 m.op, .int .i64 0, .int .i64 0, .int .i64 m.g, .int .i64 m.x, .int .i64 m.y]) := Lib.hid (by rw [HMO.out, HMG.out, HMX.out, HMY.out]; exact hts)
              clear hts HT HU HUT HNF HNC HTB HMX HMY hwx hwy HMO HMG
              have ht : Blk V tb 108 #[.int .i64 m.op, .int .i64 0, .int .i64 0, .int .i64 m.g, .int .i64 m.x, .int .i64 m.y] := HTS.out
              have y0 := ht.cell (k := 0) rfl
              have y1 := ht.cell (k := 1) rfl
              have y2 := ht.cell (k := 2) rfl
              have y3 := ht.cell (k := 3) rfl
              have y4 := ht.cell (k := 4) rfl
              have y5 := ht.cell (k := 5) rfl
              have hown := HI.out.own
              have hsz := HI.out.big
              have HW := Lib.hid (show V.ownsRow (w.heap.size + 1) 108 6 (.slice Ag G.length cg) G.length (ndL G) from hown)
              clear ht hown HTS
              go_wp2_with (at_builtin; obtain ⟨i0, hi, hz0, hz1, hz2⟩ := info_parts Try.infoNode; refine wpList_append_own_at _ rfl _ _ 56 rfl (w.heap.size + 1) 108 i0 _ 6 48 Try.underlying56 hi hz0 hz1 hz2 rfl (by decide) _ _ _ rfl (own_alloc' HW.out _) ⟨V.heap.size, 0, none⟩ 1 1 [.int .i64 m.op, .int .i64 0, .int .i64 0, .int .i64 m.g, .int .i64 m.x, .int .i64 m.y] rfl rfl (World.news_of_block (cs := #[.int .i64 m.op, .int .i64 0, .int .i64 0, .int .i64 m.g, .int .i64 m.x, .int .i64 m.y]) (t := 108) (fr := (0, 0)) (heap_alloc_new V _)) (by simp [Value.oneCell']) (by unfold maxLen; omega) (by omega) (by simp; omega) ?_; intro v' w3 hown' hgrow _ hloc; have HI3 := Lib.hid (HI.out.push (n := m) hown' hgrow hloc); clear hown' hgrow hloc hi hz0 hz1 hz2)
              go_roundw
              case rel => exact ⟨j + 1, by omega, by go_num, by rw [HST.out]; exact HI3.out⟩
              case measure => simp [intOf]; omega
          | true =>
            cases huy : n1.uy with
            | false =>
              have hU : ∀ X, Calls Try.prog 91 #[.int .i64 n1.op] X fun e w' => e = .returned (.tuple #[.agg #[.bool true, .bool false, .bool n1.uf, .bool false, .bool n1.ug, .bool false, .int .i64 n1.fr], .bool true]) ∧ Below X.heap.size X w' := fun X => by
                have := uses_any n1 X
                rw [hux, huy] at this
                exact this
              have HUS := Lib.hid hU
              have HMX := Lib.hid (show m.x = n1.x + F.length by rw [HM.out, Nd.shift_x, hux]; rfl)
              have HMY := Lib.hid (show m.y = n1.y by rw [HM.out, Nd.shift_y, huy]; rfl)
              clear hU hux huy
              go_upto_region 11 with (fail)
              have ht0 : Blk (wr.alloc (.cells #[.int .i64 n1.op, .int .i64 0, .int .i64 0, .int .i64 n1.g, .int .i64 n1.x, .int .i64 n1.y] 108)) wr.heap.size 108 #[.int .i64 n1.op, .int .i64 0, .int .i64 0, .int .i64 n1.g, .int .i64 n1.x, .int .i64 n1.y] := Blk.new wr _ _
              have hba := below_alloc wr (.cells #[.int .i64 n1.op, .int .i64 0, .int .i64 0, .int .i64 n1.g, .int .i64 n1.x, .int .i64 n1.y] 108)
              have hnf : (Value.slice Ag G.length cg).ownBlock ≠ some wr.heap.size := fun e => by have := own_lt HJ.out.own e; omega
              have hnc : (Value.slice (some ⟨bc, 0, none⟩) l.length cc).ownBlock ≠ some wr.heap.size := fun e => by have := own_lt HJ.out.cl e; omega
              have htb : w.heap.size < wr.heap.size := by have := HJ.out.big; omega
              generalize wr.alloc (.cells #[.int .i64 n1.op, .int .i64 0, .int .i64 0, .int .i64 n1.g, .int .i64 n1.x, .int .i64 n1.y] 108) = wy at ht0 hba ⊢
              have HJ2 := Lib.hid (HJ.out.below hba)
              obtain ⟨tb, etb⟩ : ∃ b, b = wr.heap.size := ⟨_, rfl⟩
              rw [← etb] at ht0 hnf hnc htb ⊢
              have x0 := ht0.cell (k := 0) rfl
              have HT0 := Lib.hid ht0
              have HNF := Lib.hid hnf
              have HNC := Lib.hid hnc
              have HTB := Lib.hid htb
              clear hba ht0 hnf hnc htb etb HJ c0 c1 c2 c3 c4 c5
              go_upto_region 12 with (go_at_call 91; refine (HUS.out _).mono ?_; rintro e w4 ⟨rfl, hb1⟩; have HJ3 := Lib.hid (HJ2.out.below hb1); have HT1 := Lib.hid (HT0.out.below hb1); clear hb1)
              have hu0 := Blk.new w4 #[.bool true, .bool false, .bool n1.uf, .bool false, .bool n1.ug, .bool false, .int .i64 n1.fr] 135
              have hba := below_alloc w4 (.cells #[.bool true, .bool false, .bool n1.uf, .bool false, .bool n1.ug, .bool false, .int .i64 n1.fr] 135)
              have hut : w4.heap.size ≠ tb := fun e => by have := HT1.out.lt; omega
              generalize w4.alloc (.cells #[.bool true, .bool false, .bool n1.uf, .bool false, .bool n1.ug, .bool false, .int .i64 n1.fr] 135) = V1 at hu0 hba ⊢
              obtain ⟨ub, eub⟩ : ∃ b, b = w4.heap.size := ⟨_, rfl⟩
              rw [← eub] at hu0 hut ⊢
              have HI := Lib.hid (HJ3.out.below hba)
              have HT := Lib.hid (HT1.out.below hba)
              have HU := Lib.hid hu0
              have HUT := Lib.hid hut
              have u0 : V1.cell? ⟨ub, 0, none⟩ = some (.bool true) := hu0.cell (k := 0) rfl
              clear x0 HJ2 HJ3 HT0 HT1 hu0 hba hut eub HUS
              go_upto_region 13 with (fail)
              clear u0
              have xk := HT.out.cell (k := 4) rfl
              have xf := HT.out.frozen (k := 4)
              go_upto_region 14 with (fail)
              try rw [hwx]
              have hI2 := HI.out.set (tb := tb) HNF.out HNC.out HTB.out 4 (.int .i64 ((n1.x : Int) + (F.length : Int)))
              have hT2 := HT.out.set 4 (.int .i64 ((n1.x : Int) + (F.length : Int)))
              have hU2 := HU.out.set_ne (b' := tb) HUT.out 4 (.int .i64 ((n1.x : Int) + (F.length : Int)))
              generalize V1.setCell ⟨tb, 4, none⟩ (.int .i64 ((n1.x : Int) + (F.length : Int))) = V at hI2 hT2 hU2 ⊢
              clear xk xf HI HT HU
              have HI := Lib.hid hI2
              have HT := Lib.hid hT2
              have HU := Lib.hid hU2
              clear hI2 hT2 hU2
              have u1 : V.cell? ⟨ub, 1, none⟩ = some (.bool false) := HU.out.cell (k := 1) rfl
              go_upto_region 16 with (fail)
              clear u1
              have hts : Blk V tb 108 #[.int .i64 n1.op, .int .i64 0, .int .i64 0, .int .i64 n1.g, .int .i64 ((n1.x : Int) + (F.length : Int)), .int .i64 n1.y] := HT.out
              have HTS : Hid (Blk V tb 108 #[.int .i64 m.op, .int .i64 0, .int .i64 0, .int .i64 m.g, .int .i64 m.x, .int .i64 m.y]) := Lib.hid (by rw [HMO.out, HMG.out, HMX.out, HMY.out, Int.natCast_add]; exact hts)
              clear hts HT HU HUT HNF HNC HTB HMX HMY hwx hwy HMO HMG
              have ht : Blk V tb 108 #[.int .i64 m.op, .int .i64 0, .int .i64 0, .int .i64 m.g, .int .i64 m.x, .int .i64 m.y] := HTS.out
              have y0 := ht.cell (k := 0) rfl
              have y1 := ht.cell (k := 1) rfl
              have y2 := ht.cell (k := 2) rfl
              have y3 := ht.cell (k := 3) rfl
              have y4 := ht.cell (k := 4) rfl
              have y5 := ht.cell (k := 5) rfl
              have hown := HI.out.own
              have hsz := HI.out.big
              have HW := Lib.hid (show V.ownsRow (w.heap.size + 1) 108 6 (.slice Ag G.length cg) G.length (ndL G) from hown)
              clear ht hown HTS
              go_wp2_with (at_builtin; obtain ⟨i0, hi, hz0, hz1, hz2⟩ := info_parts Try.infoNode; refine wpList_append_own_at _ rfl _ _ 56 rfl (w.heap.size + 1) 108 i0 _ 6 48 Try.underlying56 hi hz0 hz1 hz2 rfl (by decide) _ _ _ rfl (own_alloc' HW.out _) ⟨V.heap.size, 0, none⟩ 1 1 [.int .i64 m.op, .int .i64 0, .int .i64 0, .int .i64 m.g, .int .i64 m.x, .int .i64 m.y] rfl rfl (World.news_of_block (cs := #[.int .i64 m.op, .int .i64 0, .int .i64 0, .int .i64 m.g, .int .i64 m.x, .int .i64 m.y]) (t := 108) (fr := (0, 0)) (heap_alloc_new V _)) (by simp [Value.oneCell']) (by unfold maxLen; omega) (by omega) (by simp; omega) ?_; intro v' w3 hown' hgrow _ hloc; have HI3 := Lib.hid (HI.out.push (n := m) hown' hgrow hloc); clear hown' hgrow hloc hi hz0 hz1 hz2)
              go_roundw
              case rel => exact ⟨j + 1, by omega, by go_num, by rw [HST.out]; exact HI3.out⟩
              case measure => simp [intOf]; omega
            | true =>
              have hU : ∀ X, Calls Try.prog 91 #[.int .i64 n1.op] X fun e w' => e = .returned (.tuple #[.agg #[.bool true, .bool true, .bool n1.uf, .bool false, .bool n1.ug, .bool false, .int .i64 n1.fr], .bool true]) ∧ Below X.heap.size X w' := fun X => by
                have := uses_any n1 X
                rw [hux, huy] at this
                exact this
              have HUS := Lib.hid hU
              have HMX := Lib.hid (show m.x = n1.x + F.length by rw [HM.out, Nd.shift_x, hux]; rfl)
              have HMY := Lib.hid (show m.y = n1.y + F.length by rw [HM.out, Nd.shift_y, huy]; rfl)
              clear hU hux huy
              go_upto_region 11 with (fail)
              have ht0 : Blk (wr.alloc (.cells #[.int .i64 n1.op, .int .i64 0, .int .i64 0, .int .i64 n1.g, .int .i64 n1.x, .int .i64 n1.y] 108)) wr.heap.size 108 #[.int .i64 n1.op, .int .i64 0, .int .i64 0, .int .i64 n1.g, .int .i64 n1.x, .int .i64 n1.y] := Blk.new wr _ _
              have hba := below_alloc wr (.cells #[.int .i64 n1.op, .int .i64 0, .int .i64 0, .int .i64 n1.g, .int .i64 n1.x, .int .i64 n1.y] 108)
              have hnf : (Value.slice Ag G.length cg).ownBlock ≠ some wr.heap.size := fun e => by have := own_lt HJ.out.own e; omega
              have hnc : (Value.slice (some ⟨bc, 0, none⟩) l.length cc).ownBlock ≠ some wr.heap.size := fun e => by have := own_lt HJ.out.cl e; omega
              have htb : w.heap.size < wr.heap.size := by have := HJ.out.big; omega
              generalize wr.alloc (.cells #[.int .i64 n1.op, .int .i64 0, .int .i64 0, .int .i64 n1.g, .int .i64 n1.x, .int .i64 n1.y] 108) = wy at ht0 hba ⊢
              have HJ2 := Lib.hid (HJ.out.below hba)
              obtain ⟨tb, etb⟩ : ∃ b, b = wr.heap.size := ⟨_, rfl⟩
              rw [← etb] at ht0 hnf hnc htb ⊢
              have x0 := ht0.cell (k := 0) rfl
              have HT0 := Lib.hid ht0
              have HNF := Lib.hid hnf
              have HNC := Lib.hid hnc
              have HTB := Lib.hid htb
              clear hba ht0 hnf hnc htb etb HJ c0 c1 c2 c3 c4 c5
              go_upto_region 12 with (go_at_call 91; refine (HUS.out _).mono ?_; rintro e w4 ⟨rfl, hb1⟩; have HJ3 := Lib.hid (HJ2.out.below hb1); have HT1 := Lib.hid (HT0.out.below hb1); clear hb1)
              have hu0 := Blk.new w4 #[.bool true, .bool true, .bool n1.uf, .bool false, .bool n1.ug, .bool false, .int .i64 n1.fr] 135
              have hba := below_alloc w4 (.cells #[.bool true, .bool true, .bool n1.uf, .bool false, .bool n1.ug, .bool false, .int .i64 n1.fr] 135)
              have hut : w4.heap.size ≠ tb := fun e => by have := HT1.out.lt; omega
              generalize w4.alloc (.cells #[.bool true, .bool true, .bool n1.uf, .bool false, .bool n1.ug, .bool false, .int .i64 n1.fr] 135) = V1 at hu0 hba ⊢
              obtain ⟨ub, eub⟩ : ∃ b, b = w4.heap.size := ⟨_, rfl⟩
              rw [← eub] at hu0 hut ⊢
              have HI := Lib.hid (HJ3.out.below hba)
              have HT := Lib.hid (HT1.out.below hba)
              have HU := Lib.hid hu0
              have HUT := Lib.hid hut
              have u0 : V1.cell? ⟨ub, 0, none⟩ = some (.bool true) := hu0.cell (k := 0) rfl
              clear x0 HJ2 HJ3 HT0 HT1 hu0 hba hut eub HUS
              go_upto_region 13 with (fail)
              clear u0
              have xk := HT.out.cell (k := 4) rfl
              have xf := HT.out.frozen (k := 4)
              go_upto_region 14 with (fail)
              try rw [hwx]
              have hI2 := HI.out.set (tb := tb) HNF.out HNC.out HTB.out 4 (.int .i64 ((n1.x : Int) + (F.length : Int)))
              have hT2 := HT.out.set 4 (.int .i64 ((n1.x : Int) + (F.length : Int)))
              have hU2 := HU.out.set_ne (b' := tb) HUT.out 4 (.int .i64 ((n1.x : Int) + (F.length : Int)))
              generalize V1.setCell ⟨tb, 4, none⟩ (.int .i64 ((n1.x : Int) + (F.length : Int))) = V2 at hI2 hT2 hU2 ⊢
              clear xk xf HI HT HU
              have HI := Lib.hid hI2
              have HT := Lib.hid hT2
              have HU := Lib.hid hU2
              clear hI2 hT2 hU2
              have u1 : V2.cell? ⟨ub, 1, none⟩ = some (.bool true) := HU.out.cell (k := 1) rfl
              go_upto_region 15 with (fail)
              clear u1
              have xk := HT.out.cell (k := 5) rfl
              have xf := HT.out.frozen (k := 5)
              go_upto_region 16 with (fail)
              try rw [hwy]
              have hI2 := HI.out.set (tb := tb) HNF.out HNC.out HTB.out 5 (.int .i64 ((n1.y : Int) + (F.length : Int)))
              have hT2 := HT.out.set 5 (.int .i64 ((n1.y : Int) + (F.length : Int)))
              have hU2 := HU.out.set_ne (b' := tb) HUT.out 5 (.int .i64 ((n1.y : Int) + (F.length : Int)))
              generalize V2.setCell ⟨tb, 5, none⟩ (.int .i64 ((n1.y : Int) + (F.length : Int))) = V at hI2 hT2 hU2 ⊢
              clear xk xf HI HT HU
              have HI := Lib.hid hI2
              have HT := Lib.hid hT2
              have HU := Lib.hid hU2
              clear hI2 hT2 hU2
              have hts : Blk V tb 108 #[.int .i64 n1.op, .int .i64 0, .int .i64 0, .int .i64 n1.g, .int .i64 ((n1.x : Int) + (F.length : Int)), .int .i64 ((n1.y : Int) + (F.length : Int))] := HT.out
              have HTS : Hid (Blk V tb 108 #[.int .i64 m.op, .int .i64 0, .int .i64 0, .int .i64 m.g, .int .i64 m.x, .int .i64 m.y]) := Lib.hid (by rw [HMO.out, HMG.out, HMX.out, HMY.out, Int.natCast_add, Int.natCast_add]; exact hts)
              clear hts HT HU HUT HNF HNC HTB HMX HMY hwx hwy HMO HMG
              have ht : Blk V tb 108 #[.int .i64 m.op, .int .i64 0, .int .i64 0, .int .i64 m.g, .int .i64 m.x, .int .i64 m.y] := HTS.out
              have y0 := ht.cell (k := 0) rfl
              have y1 := ht.cell (k := 1) rfl
              have y2 := ht.cell (k := 2) rfl
              have y3 := ht.cell (k := 3) rfl
              have y4 := ht.cell (k := 4) rfl
              have y5 := ht.cell (k := 5) rfl
              have hown := HI.out.own
              have hsz := HI.out.big
              have HW := Lib.hid (show V.ownsRow (w.heap.size + 1) 108 6 (.slice Ag G.length cg) G.length (ndL G) from hown)
              clear ht hown HTS
              go_wp2_with (at_builtin; obtain ⟨i0, hi, hz0, hz1, hz2⟩ := info_parts Try.infoNode; refine wpList_append_own_at _ rfl _ _ 56 rfl (w.heap.size + 1) 108 i0 _ 6 48 Try.underlying56 hi hz0 hz1 hz2 rfl (by decide) _ _ _ rfl (own_alloc' HW.out _) ⟨V.heap.size, 0, none⟩ 1 1 [.int .i64 m.op, .int .i64 0, .int .i64 0, .int .i64 m.g, .int .i64 m.x, .int .i64 m.y] rfl rfl (World.news_of_block (cs := #[.int .i64 m.op, .int .i64 0, .int .i64 0, .int .i64 m.g, .int .i64 m.x, .int .i64 m.y]) (t := 108) (fr := (0, 0)) (heap_alloc_new V _)) (by simp [Value.oneCell']) (by unfold maxLen; omega) (by omega) (by simp; omega) ?_; intro v' w3 hown' hgrow _ hloc; have HI3 := Lib.hid (HI.out.push (n := m) hown' hgrow hloc); clear hown' hgrow hloc hi hz0 hz1 hz2)
              go_roundw
              case rel => exact ⟨j + 1, by omega, by go_num, by rw [HST.out]; exact HI3.out⟩
              case measure => simp [intOf]; omega
        · obtain rfl : j = l.length := by omega
          have hjn : ¬ (l.length : Int) < (l.length : Int) := by omega
          clear hi0
          obtain ⟨Ag, cg, rfl⟩ := HJ.out.own.shape
          have HFE := Lib.hid (show F ++ (l.take l.length).map (Nd.shift F.length) = catN (os.take (i + 1)) by rw [List.take_length, List.take_add_one, HL.out, Option.toList_some, catN_snoc, HF.out])
          have hpos : 0 < (catN (os.take (i + 1))).length := by
            rw [← HFE.out, List.length_append, List.length_map, List.take_length]
            have := HCL.out.pos
            omega
          have hle : (catN (os.take (i + 1))).length ≤ 200 * (i + 1) := by
            rw [← HFE.out, List.length_append, List.length_map, List.take_length]
            omega
          have HJ2 := HJ.out
          rw [HFE.out] at HJ2 ⊢
          obtain ⟨G, eG⟩ : ∃ G, G = catN (os.take (i + 1)) := ⟨_, rfl⟩
          rw [← eG] at HJ2 hpos hle ⊢
          have hw1 : IntKind.i64.wrap ((G.length : Int) - 1) = (G.length : Int) - 1 := by rw [IntKind.wrap_i64]; omega
          have HJ3 := Lib.hid HJ2
          have HG := Lib.hid eG
          have hbx : Blk wr w.heap.size 108 #[.int .i64 nd.op, .int .i64 0, .int .i64 0, .int .i64 nd.g, .int .i64 (bdX os i), .int .i64 (bdY os i)] := HJ2.box
          have HBX := Lib.hid hbx
          have x4 := hbx.cell (k := 4) rfl
          have x5 := hbx.cell (k := 5) rfl
          have f4 := hbx.frozen (k := 4)
          have f5 := hbx.frozen (k := 5)
          clear HJ HJ2 hbx eG HFE
          rcases Nat.eq_zero_or_pos i with rfl | hip
          · go_wp2_with fail
            have hb4 := HBX.out.set 4 (.int .i64 ((G.length : Int) - 1))
            have hO : BdO w (wr.setCell ⟨w.heap.size, 4, none⟩ (.int .i64 ((G.length : Int) - 1))) (.slice Ag G.length cg) nd os 1 := ⟨by
                rw [← HG.out]
                exact own_keepRow HJ3.out.own (KeepRow.grown (gr_set wr w.heap.size 4 _)) fun q hq e => HJ3.out.ne (by rw [hq]; exact e.symm), by
                have e1 : ((G.length : Int) - 1) = (bdX os 1 : Nat) := by unfold bdX; rw [if_neg (by decide), ← HG.out]; omega
                have e2 : (bdY os 0 : Nat) = bdY os 1 := rfl
                rw [e1] at hb4 ⊢
                rw [e2] at hb4
                exact hb4, HJ3.out.low.setCell (p := ⟨w.heap.size, 4, none⟩) (Nat.le_refl _) _, by simpa [World.setCell] using HJ3.out.big, by rw [← HG.out]; omega⟩
            have HOO := Lib.hid hO
            clear hb4 hO
            go_roundw
            case rel => exact ⟨1, by omega, by go_num, HOO.out⟩
            case measure => simp [intOf]; omega
          · obtain rfl : i = 1 := by omega
            go_wp2_with fail
            have hb4 := HBX.out.set 5 (.int .i64 ((G.length : Int) - 1))
            have hO : BdO w (wr.setCell ⟨w.heap.size, 5, none⟩ (.int .i64 ((G.length : Int) - 1))) (.slice Ag G.length cg) nd os 2 := ⟨by
                rw [← HG.out]
                exact own_keepRow HJ3.out.own (KeepRow.grown (gr_set wr w.heap.size 5 _)) fun q hq e => HJ3.out.ne (by rw [hq]; exact e.symm), by
                have e1 : ((G.length : Int) - 1) = (bdY os 2 : Nat) := by unfold bdY; rw [if_neg (by decide), ← HG.out]; omega
                have e2 : (bdX os 1 : Nat) = bdX os 2 := rfl
                rw [e1] at hb4 ⊢
                rw [e2] at hb4
                exact hb4, HJ3.out.low.setCell (p := ⟨w.heap.size, 5, none⟩) (Nat.le_refl _) _, by simpa [World.setCell] using HJ3.out.big, by rw [← HG.out]; omega⟩
            have HOO := Lib.hid hO
            clear hb4 hO
            go_roundw
            case rel => exact ⟨2, by omega, by go_num, HOO.out⟩
            case measure => simp [intOf]; omega
    · obtain rfl : i = n := by omega
      have hin : ¬ (i : Int) < (i : Int) := by omega
      have hT : os.take i = os := by rw [HN.out, List.take_length]
      have hown := hb.own
      rw [hT] at hown
      obtain ⟨Ag, cg, rfl⟩ := hown.shape
      obtain ⟨F, eF⟩ : ∃ F, F = catN os := ⟨_, rfl⟩

      have hcn := HC.out
      rw [← eF] at hown hcn ⊢
      have hbx : Blk wr w.heap.size 108 #[.int .i64 nd.op, .int .i64 0, .int .i64 0, .int .i64 nd.g, .int .i64 nd.x, .int .i64 nd.y] := by
        have := hb.box
        unfold bdV at this
        rw [HX.out, HY.out, ← HN.out]
        exact this
      have y0 := hbx.cell (k := 0) rfl
      have y1 := hbx.cell (k := 1) rfl
      have y2 := hbx.cell (k := 2) rfl
      have y3 := hbx.cell (k := 3) rfl
      have y4 := hbx.cell (k := 4) rfl
      have y5 := hbx.cell (k := 5) rfl
      have hfl : F.length + 1 ≤ 200 := by have := hcn.len; rw [List.length_append] at this; simpa using this
      have HBO := Lib.hid hb
      have HFO := Lib.hid eF
      have HBX := Lib.hid hbx
      have HOW := Lib.hid hown
      have HNE := Lib.hid (fun X => nodeError_any nd F.length X (hcn.ok F.length nd (by rw [List.getElem?_append_right (Nat.le_refl _)]; simp)))
      have HCM := Lib.hid (fun v X (h : NdO X 0 v (F ++ [nd])) => compact_at v (F ++ [nd]) (F.length : Int) X h hcn (by rw [List.length_append]; simp))
      clear hb hown hbx hT hcn eF
      go_upto_region 24 with (go_at_call 92; refine (HNE.out _).mono ?_; rintro e w4 ⟨rfl, hb1⟩; have HB4 := Lib.hid hb1; have z0 := cell_below hb1 y0; have z1 := cell_below hb1 y1; have z2 := cell_below hb1 y2; have z3 := cell_below hb1 y3; have z4 := cell_below hb1 y4; have z5 := cell_below hb1 y5; clear hb1)
      clear y0 y1 y2 y3 y4 y5
      have HW := Lib.hid (show w4.ownsRow (w.heap.size + 1) 108 6 (.slice Ag F.length cg) F.length (ndL F) from own_below' HOW.out HB4.out (Nat.le_refl _))
      have hsz := Nat.le_trans HBO.out.big HB4.out.size
      go_wp2_with (first
        | (at_builtin; obtain ⟨i0, hi, hz0, hz1, hz2⟩ := info_parts Try.infoNode; refine wpList_append_own_at _ rfl _ _ 56 rfl (w.heap.size + 1) 108 i0 _ 6 48 Try.underlying56 hi hz0 hz1 hz2 rfl (by decide) _ _ _ rfl (own_alloc' HW.out _) ⟨w4.heap.size, 0, none⟩ 1 1 [.int .i64 nd.op, .int .i64 0, .int .i64 0, .int .i64 nd.g, .int .i64 nd.x, .int .i64 nd.y] rfl rfl (World.news_of_block (cs := #[.int .i64 nd.op, .int .i64 0, .int .i64 0, .int .i64 nd.g, .int .i64 nd.x, .int .i64 nd.y]) (t := 108) (fr := (0, 0)) (heap_alloc_new w4 _)) (by simp [Value.oneCell']) (by unfold maxLen; omega) (by omega) (by simp; omega) ?_; intro v' w5 hown' hgrow _ _; have hl4 := below_trans HBO.out.low HB4.out; have HB5 := Lib.hid ((below_trans hl4 (below_alloc _ _)).grown hgrow (below_trans hl4 (below_alloc _ _)).size fun k hk => by have := (HW.out.lt k hk).1; omega); have HO5 := Lib.hid (show NdO w5 0 v' (F ++ [nd]) by unfold NdO; rw [ndL_snoc, List.length_append]; exact own_mono' hown' (Nat.zero_le _)); clear hown' hgrow hl4 hi hz0 hz1 hz2)
        | (go_at_call 93; refine (HCM.out _ _ HO5.out).mono ?_; rintro e w6 ⟨v6, rfl, ho6, hb6⟩; obtain ⟨A6, c6, rfl⟩ := ho6.shape; have hl6 : (F ++ [nd]).length = F.length + 1 := (by rw [List.length_append]; rfl); rw [hl6] at ho6 ⊢; have HO6 := Lib.hid (ho6.mono HB5.out.size); have HB6 := Lib.hid (below_trans HB5.out hb6); clear ho6 hb6))
      go_ret
      exact ⟨.slice A6 (F.length + 1) c6, rfl, HFO.out ▸ HO6.out, HB6.out⟩
end Go.Proofs.Ytahaimecchdfeaa
