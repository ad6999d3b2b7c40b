/-
  Walks of layer 54: flood of the reference.
-/
import Derived.Test.YtgnkeecjaffnaaaProg
import Derived.Test.YtgnkeecjaffnaaaBase
import Derived.Test.YtgnkeecjaffnaaaRow
import Derived.Test.YtgnkeecjaffnaaaRowU
import Derived.Test.YtgnkeecjaffnaaaRowsOf
import Derived.Test.YtgnkeecjaffnaaaPc
import Derived.Test.YtgnkeecjaffnaaaPd
import Derived.Test.YtgnkeecjaffnaaaPrF
import Derived.Test.YtgnkeecjaffnaaaPrI
import Derived.Test.YtgnkeecjaffnaaaPfP
import Derived.Test.YtgnkeecjaffnaaaPfA
import Derived.Test.YtgnkeecjaffnaaaPfB
import Derived.Test.YtgnkeecjaffnaaaPfS
import Derived.Test.YtgnkeecjaffnaaaPfT
import Derived.Test.YtgnkeecjaffnaaaPfU
import Derived.Test.YtgnkeecjaffnaaaPfX
import Derived.Test.YtgnkeecjaffnaaaPfY
import Derived.Test.YtgnkeecjaffnaaaPfZ
import Derived.Deep.RegionHeld3
import Derived.Deep.AppendLies
import Derived.Deep.DeepCutAuto
namespace Go.Proofs.Ytgnkeecjaffnaaa
open Go.RowKit

theorem shr_mod (Z k : Nat) : ((Z : Int) / 2 ^ k).tmod 2 = ((if Z.testBit k then 1 else 0 : Nat) : Int) := by
  have e : ((Z : Int) / 2 ^ k) = ((Z / 2 ^ k : Nat) : Int) := by rw [Int.natCast_ediv, Int.natCast_pow]; rfl
  rw [e, Nat.testBit_eq_decide_div_mod_eq]
  generalize Z / 2 ^ k = q
  show ((q % 2 : Nat) : Int) = _
  by_cases h : q % 2 = 1
  · simp [h]
  · have : q % 2 = 0 := by omega
    simp [this]
theorem own_kv {w : World} {base n g c x : Nat} {b : Nat} (h : w.ownsRow base 3 1 (.slice (some ⟨g, 0, none⟩) n c) n (i64L (fun k => (kvN x b k : Int)) n)) : I64s w (some ⟨g, 0, none⟩) n (fun k => (kvN x b k : Int)) := by
  obtain ⟨A', c', he, hA⟩ := own_i64s h (fun k _ => by have := kvN_le x b k; omega)
  injection he with he1 _ _
  subst he1
  exact hA
theorem three_blocks (w : World) (x0 x1 x2 : Array Value) (T0 T1 T2 : TypeId) (W : World) (hW : W = ((w.alloc (.cells x0 T0)).alloc (.cells x1 T1)).alloc (.cells x2 T2)) :
    Blk W w.heap.size T0 x0 ∧ Blk W (w.heap.size + 1) T1 x1 ∧ Blk W (w.heap.size + 1 + 1) T2 x2 ∧ Below w.heap.size w W := by
  subst hW
  have k0 := Blk.new w x0 T0
  have k1 := Blk.new (w.alloc (.cells x0 T0)) x1 T1
  have k2 := Blk.new ((w.alloc (.cells x0 T0)).alloc (.cells x1 T1)) x2 T2
  have hb := ((below_alloc w (.cells x0 T0)).alloc (by simp) (.cells x1 T1)).alloc (by simp; omega) (.cells x2 T2)
  simp only [World.size_alloc] at k1 k2
  exact ⟨(k0.alloc _).alloc _, k1.alloc _, k2, hb⟩
/-- What the loop over the times holds. -/
def RfK (w wr : World) (br N X : Nat) (rd tv : Nat → Int) (s : Nat) (kv : Value) : Prop :=
  KnO wr w.heap.size kv X N N (kn rd tv N s) ∧ ∃ vL vF rows, RfI w wr w.heap.size br vL vF rows N (s + 1) (s + 1) (fun t i => (stN rd tv N X t i : Int)) (fun t => fcN rd N X t N)
set_option maxHeartbeats 4000000 in
set_option maxRecDepth 100000 in
theorem rflood_any (N r X : Nat) (A : Option Addr) (c : Nat) (rd tv : Nat → Int) (w : World) (hx : CrS w A N rd tv) (h2 : 2 ≤ N) (h4 : N ≤ 4) (hr : r ≤ 3) (hX : X < 2 ^ N) (htv : ∀ i, i < N → 0 ≤ tv i) :
    Calls Try.prog 46 #[.int .i64 N, .int .i64 r, .int .i64 X, .slice A N c] w (FloPost w (floD N r X rd tv)) := by
  have HX := Lib.hid hx
  have HTV := Lib.hid htv
  have HXL := Lib.hid hX
  clear hx htv hX
  go_enter Try.func46, Try.ntmps46
  go_upto_region 1 with (fail)
  obtain ⟨W, hW⟩ : ∃ W, W = w.alloc (.cells #[.slice none 0 0, .slice none 0 0] 30) := ⟨_, rfl⟩
  have H8 : Hid (Blk W w.heap.size 30 #[.slice none 0 0, .slice none 0 0]) := Lib.hid (by rw [hW]; exact Blk.new w _ _)
  have HB : Hid (Below w.heap.size w W) := Lib.hid (by rw [hW]; exact below_alloc w _)
  rw [← hW]
  clear hW
  have hmk := fun w1 => run_make_row' (P := Try.prog) (w := w1) 27 38 (.slice none 0 0) 24 Try.underlying27 Try.infoInts rfl .i64 .i64 N (by omega) (by omega)
  go_upto_region 2 with (fail)
  have HP0 : Hid (KnP (W.alloc (.cells (madeCells #[.slice none 0 0] N) 38)) w.heap.size W.heap.size X N 0) := Lib.hid (KnP.made W w.heap.size X N)
  have HB1 := Lib.hid (below_alloc W (.cells (madeCells #[.slice none 0 0] N) 38))
  have hsW := HB.out.size
  generalize W.alloc (.cells (madeCells #[.slice none 0 0] N) 38) = W1 at HP0 HB1 ⊢
  obtain ⟨bk, ebk⟩ : ∃ bk, bk = W.heap.size := ⟨_, rfl⟩
  rw [← ebk] at HP0 hsW ⊢
  have HGE := Lib.hid (show W.heap.size ≤ bk from by omega)
  clear ebk hmk
  have hmk := fun w1 => run_make_row' (P := Try.prog) (w := w1) 38 3 (.int .i64 0) 8 Try.underlying38 Try.infoInt rfl .i64 .i64 N (by omega) (by omega)
  go_wp2_with fail
  go_loopw [10] (fun iv wr => ∃ i : Nat, i ≤ N ∧ iv = .int .i64 i ∧ KnP wr w.heap.size bk X N i ∧ Below W.heap.size W wr) (fun iv _ => N - (intOf iv).toNat)
  case atStart => exact ⟨0, Nat.zero_le _, rfl, HP0.out, HB1.out⟩
  case round =>
    clear HP0 HB1
    obtain ⟨i, hi, rfl, hkp, hbl⟩ := hrel
    by_cases hlt : i < N
    · have hbit := shr_mod X i
      have hszr := hbl.size
      have hswr : w.heap.size ≤ wr.heap.size := Nat.le_trans HB.out.size hszr
      have hst := hkp.step (u := ((1 + (if X.testBit i then 1 else 0) : Nat) : Int)) hlt hswr (by omega) rfl
      obtain ⟨cs, hbk, hcs, -⟩ := hkp
      have hkl := hbk.lt
      have hb1 := hbk.alloc (.cells (madeCells #[.int .i64 0] N) 3)
      have hn1 := Blk.new wr (madeCells #[.int .i64 0] N) 3
      have hb2 := hb1.set i (.slice (some ⟨wr.heap.size, 0, none⟩) N N)
      have hn2 := hn1.set_ne (b' := bk) (by omega) i (.slice (some ⟨wr.heap.size, 0, none⟩) N N)
      have e0 : (madeCells #[.int .i64 0] N)[i]? = some (.int .i64 0) := by
        rw [← Array.getElem?_toList, toList_madeCells_one, List.getElem?_replicate, if_pos hlt]
      have c1 := hb1.cell (k := i) (Array.getElem?_eq_getElem (by omega))
      have f1 := hb1.frozen (k := i)
      have c2 := hb2.cell (k := i) (by rw [Array.getElem?_setIfInBounds_self_of_lt (by omega)])
      have c3 := hn2.cell (k := i) e0
      have f3 := hn2.frozen (k := i)
      have HST := Lib.hid hst
      have HB1 := Lib.hid hbl
      generalize hcv : cs[i]'_ = cv at c1
      have HBE : Hid (∀ u v : Value, Below W.heap.size W (((wr.alloc (.cells (madeCells #[.int .i64 0] N) 3)).setCell ⟨bk, i, none⟩ u).setCell ⟨wr.heap.size, i, none⟩ v)) := Lib.hid fun u v => ((hbl.alloc hszr _).setCell (p := ⟨bk, i, none⟩) HGE.out u).setCell (p := ⟨wr.heap.size, i, none⟩) hszr v
      clear hcv hst hb1 hb2 hn1 hn2 hbk hcs e0 hbl
      obtain ⟨Z, eZ⟩ : ∃ Z, Z = (wr.alloc (.cells (madeCells #[.int .i64 0] N) 3)).setCell ⟨bk, i, none⟩ (.slice (some ⟨wr.heap.size, 0, none⟩) N N) := ⟨_, rfl⟩
      have EZ : Hid ((wr.setCell ⟨bk, i, none⟩ (.slice (some ⟨wr.heap.size, 0, none⟩) N N)).alloc (.cells (madeCells #[.int .i64 0] N) 3) = Z) := Lib.hid (by rw [eZ]; exact (World.setCell_alloc_past _ _ _ _ hkl).symm)
      have HBZ : Hid (∀ v : Value, Below W.heap.size W (Z.setCell ⟨wr.heap.size, i, none⟩ v)) := Lib.hid fun v => by rw [eZ]; exact HBE.out _ v
      rw [← eZ] at c2 c3 f3 HST
      clear eZ HBE
      cases hxb : X.testBit i
      · rw [hxb] at hbit HST
        have hbit' : ((X : Int) / 2 ^ i).tmod 2 = 0 := hbit
        have HST' : Hid (KnP (Z.setCell ⟨wr.heap.size, i, none⟩ (.int .i64 1)) w.heap.size bk X N (i + 1)) := HST
        clear hbit HST hxb
        go_upto_region 6 with (fail)
        rw [EZ.out]
        clear EZ c1 f1
        go_wp2_with fail
        go_roundw
        case rel => exact ⟨i + 1, by omega, by go_num, HST'.out, HBZ.out _⟩
        case measure => simp [intOf]; omega
      · rw [hxb] at hbit HST
        have hbit' : ((X : Int) / 2 ^ i).tmod 2 = 1 := hbit
        have HST' : Hid (KnP (Z.setCell ⟨wr.heap.size, i, none⟩ (.int .i64 2)) w.heap.size bk X N (i + 1)) := HST
        clear hbit HST hxb
        go_upto_region 6 with (fail)
        rw [EZ.out]
        clear EZ c1 f1
        go_wp2_with fail
        go_roundw
        case rel => exact ⟨i + 1, by omega, by go_num, HST'.out, HBZ.out _⟩
        case measure => simp [intOf]; omega
    · obtain rfl : i = N := by omega
      have HBW := Lib.hid (HB.out.trans (hbl.mono HB.out.size))
      have hko : KnO wr w.heap.size (.slice (some ⟨bk, 0, none⟩) i i) X i i (kn rd tv i 0) := (hkp.done (Nat.le_trans HB.out.size HGE.out) (by omega)).congr fun a _ => rfl
      obtain ⟨A', c', R, cc, e', hm⟩ := hko.mat (by omega)
      injection e' with e1 e2 e3
      subst e1 e3
      have HS : Hid (Calls Try.prog 72 #[.int .i64 0, .int .i64 X, .slice (some ⟨bk, 0, none⟩) i i, .slice A i c] wr fun e w' => ∃ v, e = .returned (.tuple #[v, .int .u64 (fcN rd i X 0 i : Nat)]) ∧ w'.ownsRow wr.heap.size 3 1 v i (i64L (fun a => (stN rd tv i X 0 a : Int)) i) ∧ Below wr.heap.size wr w') := Lib.hid (state_any 0 X i i c _ A R cc (kn rd tv i 0) rd tv wr hm (HX.out.below HBW.out) h4 (by omega) HXL.out)
      have HKO := Lib.hid hko
      have H8r := Lib.hid (H8.out.below hbl)
      have hs2 := HBW.out.size
      clear hmk hkp hko hm hbl H8 HB HGE hsW e2
      go_upto_region 8 with (go_at_call 72; refine HS.out.mono ?_; rintro e w1 ⟨sv, rfl, hrow, hb1⟩; have HROW := Lib.hid hrow; have HB1 := Lib.hid hb1; have hs3 := hb1.size; clear hrow hb1)
      have HKO := Lib.hid (HKO.out.below HB1.out)
      have H8r := Lib.hid (H8r.out.below HB1.out)
      have HBW := Lib.hid (HBW.out.trans (HB1.out.mono HBW.out.size))
      clear HS HB1
      obtain ⟨gs, cgs, rfl⟩ := own_pos HROW.out (by omega)
      go_upto_region 9 with (fail)
      obtain ⟨V, hV⟩ : ∃ V, V = ((w1.alloc (.cells #[.slice (some ⟨gs, 0, none⟩) i cgs] 38)).alloc (.cells #[.int .u64 (fcN rd i X 0 i : Nat)] 64)).alloc (.cells #[.slice (some ⟨w1.heap.size, 0, none⟩) 1 1, .slice (some ⟨w1.heap.size + 1, 0, none⟩) 1 1] 30) := ⟨_, rfl⟩
      rw [← hV]
      obtain ⟨k0, k1, k2, hBV⟩ := three_blocks w1 _ _ _ _ _ _ V hV
      have h8s := H8r.out.lt
      have HFK : Hid (RfK w V (w1.heap.size + 1 + 1) i X rd tv 0 (.slice (some ⟨bk, 0, none⟩) i i)) := Lib.hid (by
        refine ⟨HKO.out.below hBV, .slice (some ⟨w1.heap.size, 0, none⟩) 1 1, .slice (some ⟨w1.heap.size + 1, 0, none⟩) 1 1, [.slice (some ⟨gs, 0, none⟩) i cgs], HBW.out.trans (hBV.mono HBW.out.size), H8r.out.below hBV, k2, by omega, ⟨Nat.le_refl _, by omega⟩, own_one k0 (by omega), fun j hj => ?_, own_one k1 (by omega)⟩
        obtain rfl : j = 0 := by omega
        exact ⟨_, rfl, own_below (own_mono' HROW.out hs2) hBV (Nat.le_refl _)⟩)
      generalize w1.heap.size + 1 + 1 = br at HFK ⊢
      clear k0 k1 k2 hBV hV HROW HKO H8r HBW hs2 hs3 h8s
      go_wp2_with fail
      go_loopw [9, 14] (fun kv iv wr => ∃ s : Nat, s ≤ r ∧ iv = .int .i64 ((s + 1 : Nat) : Int) ∧ RfK w wr br i X rd tv s kv) (fun _ iv _ => r + 1 - (intOf iv).toNat)
      case atStart => exact ⟨0, Nat.zero_le _, rfl, HFK.out⟩
      case round =>
        clear HFK
        obtain ⟨s, hs, rfl, hko, vL, vF, rows, hfi⟩ := hrel
        obtain ⟨V0, eW⟩ : ∃ V0, V0 = wr := ⟨_, rfl⟩
        subst eW
        have HFI := Lib.hid hfi
        have HKO := Lib.hid hko
        have HXR := Lib.hid (HX.out.below hfi.below)
        clear hfi hko
        by_cases hlt : s < r
        · obtain ⟨bc, oc, rfl, -⟩ := HX.out 0 (by omega)
          have hkv := HKO.out
          obtain ⟨_, hkv, -⟩ := hkv
          obtain ⟨gk, ck, rfl⟩ := own_pos hkv (by omega)
          clear hkv
          have hsV := HFI.out.below.size
          obtain ⟨T, eT⟩ : ∃ T, T = s + 1 := ⟨_, rfl⟩
          rw [← eT] at HFI ⊢
          have HKT : Hid (∀ a, orU rd tv T (kn rd tv i s) a i = kn rd tv i T a) := Lib.hid fun a => by rw [eT]; rfl
          obtain ⟨f, ef⟩ : ∃ f, f = kn rd tv i s := ⟨_, rfl⟩
          rw [← ef] at HKO HKT
          have hTr : (T : Int) ≤ (r : Int) := by omega
          have hT3 : T ≤ 3 := by omega
          have ET := Lib.hid eT
          clear ef eT
          go_wp2_with fail
          go_loopw [15, 16] (fun nv av wx => ∃ a : Nat, a ≤ i ∧ av = .int .i64 a ∧ KnQ wx V0.heap.size w.heap.size nv X i a (kn rd tv i T) ∧ Below V0.heap.size V0 wx) (fun _ av _ => i - (intOf av).toNat)
          case atStart => exact ⟨0, Nat.zero_le _, rfl, KnQ.nil _ _ _ _ _ _, Below.refl _ _⟩
          case round =>
            obtain ⟨a, ha, rfl, hkq, hbx⟩ := hrel
            have HKQ := Lib.hid hkq
            have HBX := Lib.hid hbx
            by_cases hla : a < i
            · obtain ⟨rv, ca, hrow⟩ := (HKO.out.below hbx).at hla
              obtain ⟨gq, cq, rfl⟩ := own_pos hrow (by omega)
              have HROW := Lib.hid hrow
              have hai : (a : Int) < (i : Int) := by omega
              obtain ⟨V1, eW⟩ : ∃ V1, V1 = wr := ⟨_, rfl⟩
              subst eW
              clear hrow hkq hbx
              go_wp2_with fail
              go_loopw [17, 18] (fun rv jv wx => ∃ j : Nat, j ≤ i ∧ jv = .int .i64 j ∧ ∃ g cc, rv = .slice (some ⟨g, 0, none⟩) i cc ∧ wx.ownsRow w.heap.size 3 1 (.slice (some ⟨g, 0, none⟩) i cc) i (i64L (fun k => (kvN X (orU rd tv T f a j) k : Int)) i) ∧ Below V1.heap.size V1 wx) (fun _ jv _ => i - (intOf jv).toNat)
              case atStart => exact ⟨0, Nat.zero_le _, rfl, gq, cq, rfl, HROW.out, Below.refl _ _⟩
              case round =>
                clear HROW ca
                obtain ⟨j, hj, rfl, gq, cq, rfl, hown, hbx⟩ := hrel
                have HOW := Lib.hid hown
                have HB1 := Lib.hid hbx
                by_cases hlj : j < i
                · have hxr := (HXR.out.below HBX.out).below hbx
                  obtain ⟨cj1, cj2⟩ := hxr.at hlj
                  obtain ⟨ca1, ca2⟩ := hxr.at hla
                  obtain ⟨Y, eY⟩ : ∃ Y : Nat, tv j = Y := ⟨(tv j).toNat, by have := HTV.out j hlj; omega⟩
                  have hYl : Y < 9223372036854775808 := by obtain ⟨_, _, _, _, _, _, h⟩ := hxr j hlj; omega
                  have HRE := Lib.hid (fun w => reaches_any (rd j) Y T a w (by omega) hYl)
                  have HAL := Lib.hid (fun w => alive_any (rd a) (tv a) T w)
                  have HMV := Lib.hid (mv_ref rd tv T j a Y eY)
                  have HY := Lib.hid (fun h : mvB rd tv T j a = true => orU_yes (f := f) h)
                  have HN := Lib.hid (fun h : mvB rd tv T j a = false => orU_no (f := f) h)
                  rw [eY] at cj2
                  obtain ⟨RE, eRE⟩ : ∃ b, b = ((rd j == 0 || decide ((T : Int) < rd j)) || (rd j == (T : Int) && Y.testBit a)) := ⟨_, rfl⟩
                  obtain ⟨AL, eAL⟩ : ∃ b, b = (rd a == 0 || decide ((T : Int) < rd a)) := ⟨_, rfl⟩
                  rw [← eRE] at HRE HMV
                  rw [← eAL] at HAL HMV
                  obtain ⟨MV, eMV⟩ : ∃ b, b = (((j : Int) != (a : Int)) && RE && AL) := ⟨_, rfl⟩
                  rw [← eMV] at HMV
                  obtain ⟨y1, ey1⟩ : ∃ y, y = rd j := ⟨_, rfl⟩
                  obtain ⟨y2, ey2⟩ : ∃ y, y = rd a := ⟨_, rfl⟩
                  obtain ⟨z2, ez2⟩ : ∃ y, y = tv a := ⟨_, rfl⟩
                  rw [← ey1] at cj1 HRE
                  rw [← ey2] at ca1 HAL
                  rw [← ez2] at ca2 HAL
                  obtain ⟨V2, eW⟩ : ∃ V2, V2 = wr := ⟨_, rfl⟩
                  subst eW
                  have hji : (j : Int) < (i : Int) := by omega
                  clear hown hbx hxr eRE eAL ey1 ey2 ez2 eY hYl
                  go_upto_region 20 with (fail)
                  go_cut [93] (fun s93 wx => s93 = .bool MV ∧ Below V2.heap.size V2 wx)
                  case first =>
                    by_cases hja : j = a
                    · have tj : ((j : Int) != (a : Int)) = false := by subst hja; simp
                      rw [tj] at eMV
                      go_wp2_with fail
                      go_meet
                      exact ⟨by rw [eMV]; simp, Below.refl _ _⟩
                    · have tj : ((j : Int) != (a : Int)) = true := by rw [bne_iff_ne]; omega
                      rw [tj] at eMV
                      cases RE
                      · go_wp2_with (go_at_call 73; refine (HRE.out _).mono ?_; rintro e w3 ⟨rfl, hb3⟩)
                        go_meet
                        exact ⟨by rw [eMV]; simp, hb3⟩
                      · go_wp2_with (first
                          | (go_at_call 73; refine (HRE.out _).mono ?_; rintro e w3 ⟨rfl, hb3⟩; have ca1 := cell_below hb3 ca1; have ca2 := cell_below hb3 ca2; clear HRE)
                          | (go_at_call 74; refine (HAL.out _).mono ?_; rintro e w4 ⟨rfl, hb4⟩))
                        go_meet
                        exact ⟨by rw [eMV]; simp, below_trans hb3 hb4⟩
                  case rest =>
                    obtain ⟨rfl, hb5⟩ := hcut
                    clear HRE HAL eMV cj1 cj2 ca1 ca2
                    cases MV
                    · have ho := HN.out HMV.out
                      have HF : Hid (wc.ownsRow w.heap.size 3 1 (.slice (some ⟨gq, 0, none⟩) i cq) i (i64L (fun k => (kvN X (orU rd tv T f a (j + 1)) k : Int)) i)) := Lib.hid (by rw [ho]; exact own_below HOW.out hb5 (Nat.le_refl _))
                      have HB6 := Lib.hid (below_trans HB1.out hb5)
                      clear ho hb5 HMV HN HY HOW
                      go_wp2_with fail
                      go_roundw
                      case rel => exact ⟨j + 1, by omega, by go_num, gq, cq, rfl, HF.out, HB6.out⟩
                      case measure => simp [intOf]; omega
                    · have ho := HY.out HMV.out
                      have hbc := below_trans HB1.out hb5
                      obtain ⟨rv, cj, hrj⟩ := ((HKO.out.below HBX.out).below hbc).at hlj
                      obtain ⟨gj, cjj, rfl⟩ := own_pos hrj (by omega)
                      have HME := Lib.hid (merge_any X (orU rd tv T f a j) (f j) i cq cjj _ _ wc (own_kv (own_below HOW.out hb5 (Nat.le_refl _))) (own_kv hrj) h4)
                      rw [← ho] at HME
                      have HBC := Lib.hid hbc
                      have hsc := hbc.size
                      have hs1 := HBX.out.size
                      clear ho hb5 hbc hrj HMV HN HY HOW
                      go_wp2_with (go_at_call 75; refine HME.out.mono ?_; rintro e w6 ⟨mv, rfl, hm, hb6⟩; have HM := Lib.hid hm; have HB6 := Lib.hid hb6; clear hm hb6)
                      obtain ⟨gm, cm, rfl⟩ := own_pos HM.out (by omega)
                      go_roundw
                      case rel => exact ⟨j + 1, by omega, by go_num, gm, cm, rfl, own_mono' HM.out (by omega), below_trans HBC.out HB6.out⟩
                      case measure => simp [intOf]; omega
                · obtain rfl : j = i := by omega
                  obtain ⟨rows1, ho1, hr1⟩ := HKQ.out.below hbx
                  have HRW : Hid (wr.ownsRow w.heap.size 3 1 (.slice (some ⟨gq, 0, none⟩) j cq) j (i64L (fun k => (kvN X (kn rd tv j T a) k : Int)) j)) := Lib.hid (by rw [← HKT.out a]; exact HOW.out)
                  have HO := Lib.hid ho1
                  have HR := Lib.hid hr1
                  have HBW := Lib.hid (below_trans HBX.out hbx)
                  have hs1 := HBW.out.size
                  obtain ⟨AN, cN, rfl, -⟩ := own_form ho1
                  clear ho1 hr1 hbx hown HB1 HOW HKQ HBX
                  go_wp2_with (at_builtin; obtain ⟨i0, hi, hz0, hz1, hz2⟩ := info_parts Try.infoInts; refine wpList_append_own_at _ rfl _ _ 27 rfl V0.heap.size 38 i0 (.slice none 0 0) 1 24 Try.underlying27 hi hz0 hz1 hz2 rfl (by decide) _ _ _ rfl (HO.out.alloc _) ⟨wr.heap.size, 0, none⟩ 1 1 [.slice (some ⟨gq, 0, none⟩) j cq] rfl rfl (cell_one_new _ _ _) (one_oneCell rfl) (by unfold maxLen; omega) (by omega) (by simp; omega) ?_; intro v' w3 hown' hgrow _ _; have HOW3 := Lib.hid hown'; have HG3 := Lib.hid hgrow; have HB3 := Lib.hid (below_append HBW.out rfl HO.out hgrow); clear hown' hgrow hi hz0 hz1 hz2)
                  go_roundw
                  case rel => exact ⟨a + 1, by omega, by go_num, KnQ.push HO.out HR.out HRW.out HOW3.out HG3.out, HB3.out⟩
                  case measure => simp [intOf]; omega
            · obtain rfl : a = i := by omega
              obtain ⟨rows1, ho1, hr1⟩ := hkq
              obtain ⟨gn, cn, rfl⟩ := own_pos ho1 (by omega)
              have hko : KnO wr w.heap.size (.slice (some ⟨gn, 0, none⟩) a cn) X a a (kn rd tv a T) := KnQ.weak ⟨rows1, ho1, hr1⟩ hsV
              obtain ⟨A', c', R, cc, e', hm⟩ := hko.mat (by omega)
              injection e' with e1 e2 e3
              subst e1 e3
              have HS : Hid (Calls Try.prog 72 #[.int .i64 T, .int .i64 X, .slice (some ⟨gn, 0, none⟩) a cn, .slice (some ⟨bc, oc, none⟩) a c] wr fun e w' => ∃ v, e = .returned (.tuple #[v, .int .u64 (fcN rd a X T a : Nat)]) ∧ w'.ownsRow wr.heap.size 3 1 v a (i64L (fun k => (stN rd tv a X T k : Int)) a) ∧ Below wr.heap.size wr w') := Lib.hid (state_any T X a cn c _ _ R cc (kn rd tv a T) rd tv wr hm (HXR.out.below hbx) h4 hT3 HXL.out)
              have HLL := Lib.hid (fun k hk => (HFI.out.oL.lt k hk).2)
              have HLF := Lib.hid (fun k hk => (HFI.out.oF.lt k hk).2)
              have hbrl := HFI.out.hr.lt
              have HFI1 := Lib.hid (HFI.out.keep hbx)
              have HKQ1 := Lib.hid (show KnQ wr V0.heap.size w.heap.size (.slice (some ⟨gn, 0, none⟩) a cn) X a a (kn rd tv a T) from ⟨rows1, ho1, hr1⟩)
              have hswr := HFI1.out.below.size
              obtain ⟨V1, eW⟩ : ∃ V1, V1 = wr := ⟨_, rfl⟩
              subst eW
              clear hko hm ho1 hr1 hbx HKQ HBX HFI HKO HKT e2
              go_upto_region 25 with (go_at_call 72; refine HS.out.mono ?_; rintro e w1 ⟨sv, rfl, hrow, hb1⟩; have HROW := Lib.hid hrow; have HB1 := Lib.hid hb1; have hs3 := hb1.size; clear hrow hb1)
              have HFI2 := Lib.hid (HFI1.out.keep HB1.out)
              have HKQ2 := Lib.hid (HKQ1.out.below HB1.out)
              obtain ⟨gs, cgs, rfl⟩ := own_pos HROW.out (by omega)
              have HRow := Lib.hid (own_mono' HROW.out hswr)
              have q0 := HFI2.out.hr.cell (k := 0) rfl
              have hsz := HFI2.out.below.size
              have HOL := Lib.hid HFI2.out.oL
              obtain ⟨AL, cL, rfl, -⟩ := own_form HOL.out
              clear HS HB1 HROW HFI1 HKQ1 hs3
              go_upto_region 26 with (at_builtin; obtain ⟨i0, hi, hz0, hz1, hz2⟩ := info_parts Try.infoInts; refine wpList_append_lies _ rfl _ _ 27 rfl w.heap.size 38 i0 (.slice none 0 0) 1 24 Try.underlying27 hi hz0 hz1 hz2 rfl (by decide) _ _ _ rfl (HOL.out.alloc _) ⟨w1.heap.size, 0, none⟩ 1 1 [.slice (some ⟨gs, 0, none⟩) a cgs] rfl rfl (cell_one_new _ _ _) (one_oneCell rfl) (by omega) (by unfold maxLen; omega) (by omega) (by simp; omega) (w1.heap.size + 1) (by simp) ?_; intro gg capL w5 hown5 hgrow5 _ _; have q1 := ((HFI2.out.hr.alloc _).kept hgrow5 (HFI2.out.hr.ne_row HFI2.out.oL (by decide))).cell (k := 0) rfl; have f1 := ((HFI2.out.hr.alloc _).kept hgrow5 (HFI2.out.hr.ne_row HFI2.out.oL (by decide))).frozen (k := 0); have HOW5 := Lib.hid hown5; have HG5 := Lib.hid hgrow5; clear hi hz0 hz1 hz2 hown5 hgrow5)
              obtain ⟨h6, k6⟩ := HFI2.out.local HRow.out HOW5.out HG5.out
              have HKQ3 := Lib.hid (HKQ2.out.local HG5.out HLL.out hbrl k6)
              generalize w5.setCell ⟨br, 0, none⟩ (.slice (some ⟨gg, 0, none⟩) (T + 1) capL) = V6 at h6 k6 HKQ3 ⊢
              have hg6 := h6.below.size
              have q3 := h6.hr.cell (k := 1) rfl
              have HOF := Lib.hid h6.oF
              obtain ⟨AF, cF, rfl, -⟩ := own_form HOF.out
              have HR6 := Lib.hid h6
              clear h6 k6 HFI2 HRow HOW5 HG5 q0 q1 f1 HOL hsz HKQ2
              go_wp2_with (at_builtin; obtain ⟨i0, hi, hz0, hz1, hz2⟩ := info_parts Try.infoU64; refine wpList_append_lies _ rfl _ _ 28 rfl w.heap.size 64 i0 (.int .u64 0) 1 8 Try.underlying28 hi hz0 hz1 hz2 rfl (by decide) _ _ _ rfl (HOF.out.alloc _) ⟨V6.heap.size, 0, none⟩ 1 1 [.int .u64 (fcN rd a X T a : Nat)] rfl rfl (cell_one_new _ _ _) (one_oneCell rfl) (by omega) (by unfold maxLen; omega) (by omega) (by simp; omega) (V6.heap.size + 1) (by simp) ?_; intro gf capF w7 hown7 hgrow7 _ _; have q4 := ((HR6.out.hr.alloc _).kept hgrow7 (HR6.out.hr.ne_row HR6.out.oF (by decide))).cell (k := 1) rfl; have f4 := ((HR6.out.hr.alloc _).kept hgrow7 (HR6.out.hr.ne_row HR6.out.oF (by decide))).frozen (k := 1); have HOW7 := Lib.hid hown7; have HG7 := Lib.hid hgrow7; clear hi hz0 hz1 hz2 hown7 hgrow7)
              go_roundw
              case rel =>
                obtain ⟨h8, k8⟩ := HR6.out.facts HOW7.out HG7.out
                exact ⟨T, by omega, by go_num, KnQ.weak (HKQ3.out.local HG7.out HLF.out hbrl k8) hsV, _, _, _, h8⟩
              case measure => simp [intOf]; omega
        · obtain rfl : s = r := by omega
          obtain ⟨gl, cl, rfl⟩ := own_succ HFI.out.oL
          obtain ⟨gf, cf, rfl⟩ := own_succ HFI.out.oF
          have hlt' : ¬ (((s + 1 : Nat) : Int) ≤ (s : Int)) := by omega
          have hlt2 : ¬ ((s : Int) + 1 ≤ (s : Int)) := by omega
          have r0 := HFI.out.hr.cell (k := 0) rfl
          have r1 := HFI.out.hr.cell (k := 1) rfl
          have s0 := HFI.out.h8.cell (k := 0) rfl
          have s1 := HFI.out.h8.cell (k := 1) rfl
          have f0 := HFI.out.h8.frozen (k := 0)
          have hw1 := HFI.out.h8.set 0 (.slice (some ⟨gl, 0, none⟩) (s + 1) cl)
          have g0 := hw1.cell (k := 1) rfl
          have g1 := hw1.frozen (k := 1)
          have hw2 := hw1.set 1 (.slice (some ⟨gf, 0, none⟩) (s + 1) cf)
          have q0 := hw2.cell (k := 0) rfl
          have q1 := hw2.cell (k := 1) rfl
          clear hw1 hw2 HX HXR HKO
          go_wp2_with fail
          obtain ⟨h1, h3⟩ := HFI.out.done (.slice (some ⟨gl, 0, none⟩) (s + 1) cl) (.slice (some ⟨gf, 0, none⟩) (s + 1) cf)
          exact bodyPost_ret (v := .agg #[.slice (some ⟨gl, 0, none⟩) (s + 1) cl, .slice (some ⟨gf, 0, none⟩) (s + 1) cf]) (by simp [results, Try.results46, go_sem, q0, q1]) rfl ⟨_, rfl, h1, h3⟩
end Go.Proofs.Ytgnkeecjaffnaaa
