/-
  Walks: of package update: the families of Winslett and Forbus.
-/
import Derived.Test.YtgnmelmmcpmhoaaProg
import Derived.Test.YtgnmelmmcpmhoaaBase
import Derived.Test.YtgnmelmmcpmhoaaRowsOf
import Derived.Test.YtgnmelmmcpmhoaaUpdA
import Derived.Test.YtgnmelmmcpmhoaaUpdB
import Derived.Test.YtgnmelmmcpmhoaaUpdC
namespace Go.Proofs.Ytgnmelmmcpmhoaa
open Go.RowKit

theorem Try.infoU64 : (Try.prog.info? 32).map (fun i => (i.zero, i.size, i.bytes)) = some (some (.int .u64 0), 1, 8) := by kernel_rfl
theorem Try.infoU64s : (Try.prog.info? 53).map (fun i => (i.zero, i.size, i.bytes)) = some (some (.slice none 0 0), 1, 24) := by kernel_rfl
theorem ofInt_i64 (a : Nat) (ha : a < 9223372036854775808) : (BitVec.ofInt 64 (a : Int)).toNat = a := by
  rw [BitVec.ofInt_natCast, BitVec.toNat_ofNat]; exact Nat.mod_eq_of_lt (by omega)
theorem i64_xor_nat (a b : Nat) (ha : a < 9223372036854775808) (hb : b < 9223372036854775808) : bits .xor .i64 (a : Int) (b : Int) = ((a ^^^ b : Nat) : Int) := by
  have hx : a ^^^ b < 2 ^ 63 := Nat.xor_lt_two_pow (by omega) (by omega)
  show IntKind.i64.wrap ((BitVec.ofInt 64 (a : Int) ^^^ BitVec.ofInt 64 (b : Int)).toNat : Int) = _
  rw [BitVec.toNat_xor, ofInt_i64 a ha, ofInt_i64 b hb, IntKind.wrap_i64]
  omega

/-- The family that compares differences by 'cl'. -/
def famIn (cl : Nat → Nat → Bool) (v u x : Nat) : Bool := cl (u ^^^ v) (x ^^^ v)
def famF (n : Nat) (cl : Nat → Nat → Bool) (v u : Nat) : Nat := mkSet n (famIn cl v u)

/-- The outer loop's relation: v rows are made. -/
def FamParts (w : World) (kk n : Nat) (cl : Nat → Nat → Bool) (v : Nat) (wr : World) (A : Option Addr) (c : Nat) (rows : List Value) : Prop :=
  (wr.cell? ⟨w.heap.size, 0, none⟩ = some (.int .i64 0) ∧ wr.cell? ⟨w.heap.size, 1, none⟩ = some (.slice none 0 0) ∧ wr.frozen? ⟨w.heap.size, 0, none⟩ = false ∧ wr.frozen? ⟨w.heap.size, 1, none⟩ = false) ∧
    (wr.cell? ⟨w.heap.size + 1, 0, none⟩ = some (.int .i64 kk) ∧ wr.cell? ⟨w.heap.size + 1, 1, none⟩ = some (.slice A v c) ∧ wr.frozen? ⟨w.heap.size + 1, 1, none⟩ = false) ∧
    wr.ownsRow (w.heap.size + 2) 53 1 (.slice A v c) v rows ∧
    (∀ i, i < v → ∃ rv, rows[i]? = some rv ∧ wr.ownsRow (w.heap.size + 2) 32 1 rv n (u64L (famF n cl i) n)) ∧
    Below w.heap.size w wr ∧ w.heap.size + 2 ≤ wr.heap.size
def FamInv (w : World) (kk n : Nat) (cl : Nat → Nat → Bool) (v : Nat) (wr : World) : Prop := ∃ A c rows, FamParts w kk n cl v wr A c rows
theorem FamInv.below {w wo wr : World} {kk n v : Nat} {cl : Nat → Nat → Bool} (h : FamInv w kk n cl v wo) (hb : Below wo.heap.size wo wr) : FamInv w kk n cl v wr := by
  obtain ⟨A, c, rows, ⟨c0, c1, f0, f1⟩, ⟨d0, d1, g1⟩, ho, hr, hw, hs⟩ := h
  have h2 := hb.size
  have fr : ∀ b o, b < wo.heap.size → wr.frozen? ⟨b, o, none⟩ = wo.frozen? ⟨b, o, none⟩ := fun b o h => hb.frozen (p := ⟨b, o, none⟩) h
  exact ⟨A, c, rows, ⟨cell_below hb c0, cell_below hb c1, (fr _ _ (by omega)).trans f0, (fr _ _ (by omega)).trans f1⟩, ⟨cell_below hb d0, cell_below hb d1, (fr _ _ (by omega)).trans g1⟩,
    own_below ho hb (Nat.le_refl _), fun i hi => let ⟨rv, h1, h2⟩ := hr i hi; ⟨rv, h1, own_below h2 hb (Nat.le_refl _)⟩, hw.trans (hb.mono (by omega)), by omega⟩
theorem FamParts.cells1 {w wr w1 : World} {kk n v c : Nat} {cl : Nat → Nat → Bool} {A : Option Addr} {rows : List Value} {rv : Value} {T : TypeId} (h : FamParts w kk n cl v wr A c rows)
    (hgrow : (wr.alloc (.cells #[rv] T)).grownBy w1 (Value.slice A v c).ownBlock) : w1.cell? ⟨w.heap.size + 1, 1, none⟩ = some (.slice A v c) ∧ w1.frozen? ⟨w.heap.size + 1, 1, none⟩ = false := by
  obtain ⟨_, ⟨d0, d1, g1⟩, ho, hr, hw, hs⟩ := h
  have hlt := ho.lt
  have hne : some (w.heap.size + 1) ≠ (Value.slice A v c).ownBlock := fun e => by have := (hlt _ e.symm).1; omega
  have hsz : wr.heap.size < (wr.alloc (.cells #[rv] T)).heap.size := by simp
  refine ⟨hgrow.cell ((World.cell?_alloc_lt wr _ ⟨w.heap.size + 1, 1, none⟩ (by show w.heap.size + 1 < _; omega)).trans d1) hne, ?_⟩
  rw [World.frozen?_of_block (w := wr.alloc (.cells #[rv] T)) (hgrow.block (w.heap.size + 1) (by omega) hne), World.frozen?_of_block (w := wr) (Below.heap_alloc wr _ (w.heap.size + 1) (by omega))]
  exact g1
theorem FamInv.step {w wr w1 : World} {kk n v c g cap : Nat} {cl : Nat → Nat → Bool} {A : Option Addr} {rows : List Value} {rv : Value} {T : TypeId} (h : FamParts w kk n cl v wr A c rows)
    (hrow : wr.ownsRow (w.heap.size + 2) 32 1 rv n (u64L (famF n cl v) n))
    (hown : w1.ownsRow (w.heap.size + 2) 53 1 (.slice (some ⟨g, 0, none⟩) (v + 1) cap) (v + 1) (rows ++ [rv]))
    (hgrow : (wr.alloc (.cells #[rv] T)).grownBy w1 (Value.slice A v c).ownBlock) :
    FamInv w kk n cl (v + 1) (w1.setCell ⟨w.heap.size + 1, 1, none⟩ (.slice (some ⟨g, 0, none⟩) (v + 1) cap)) := by
  obtain ⟨⟨c0, c1, f0, f1⟩, ⟨d0, d1, g1⟩, ho, hr, hw, hs⟩ := h
  have hlt := ho.lt
  have hne : ∀ b, b < w.heap.size + 2 → some b ≠ (Value.slice A v c).ownBlock := fun b hb e => by have := (hlt b e.symm).1; omega
  have hsz : wr.heap.size < (wr.alloc (.cells #[rv] T)).heap.size := by simp
  have cc : ∀ {b o u}, b < w.heap.size + 2 → wr.cell? ⟨b, o, none⟩ = some u → w1.cell? ⟨b, o, none⟩ = some u := fun {b o u} hb hc =>
    hgrow.cell ((World.cell?_alloc_lt wr _ ⟨b, o, none⟩ (by show b < _; omega)).trans hc) (hne b hb)
  have ff : ∀ {b o}, b < w.heap.size + 2 → wr.frozen? ⟨b, o, none⟩ = false → w1.frozen? ⟨b, o, none⟩ = false := fun {b o} hb hc => by
    rw [World.frozen?_of_block (w := wr.alloc (.cells #[rv] T)) (hgrow.block b (by omega) (hne b hb)), World.frozen?_of_block (w := wr) (Below.heap_alloc wr _ b (by omega))]
    exact hc
  have e0 : w1.cell? ⟨w.heap.size + 1, 1, none⟩ = some (.slice A v c) := cc (by omega) d1
  have row1 : ∀ {u xs}, wr.ownsRow (w.heap.size + 2) 32 1 u n xs → (w1.setCell ⟨w.heap.size + 1, 1, none⟩ (.slice (some ⟨g, 0, none⟩) (v + 1) cap)).ownsRow (w.heap.size + 2) 32 1 u n xs := fun {u xs} h =>
    ownsRow_setCell_below ((h.alloc _).kept hgrow (own_ne h ho (by decide))) (by simp) _
  refine ⟨some ⟨g, 0, none⟩, cap, rows ++ [rv], ⟨?_, ?_, ?_, ?_⟩, ⟨?_, ?_, ?_⟩, ownsRow_setCell_below hown (by simp) _, fun i hi => ?_, ?_, ?_⟩
  · rw [World.cell?_setCell_other _ _ _ _ (by simp)]; exact cc (by omega) c0
  · rw [World.cell?_setCell_other _ _ _ _ (by simp)]; exact cc (by omega) c1
  · rw [World.frozen?_setCell]; exact ff (by omega) f0
  · rw [World.frozen?_setCell]; exact ff (by omega) f1
  · rw [World.cell?_setCell_other _ _ _ _ (by simp)]; exact cc (by omega) d0
  · exact World.cell?_setCell_same' _ _ _ (by rw [e0]; rfl)
  · rw [World.frozen?_setCell]; exact ff (by omega) g1
  · rcases Nat.lt_succ_iff_lt_or_eq.1 hi with h1 | rfl
    · obtain ⟨u, hu, hu2⟩ := hr i h1
      exact ⟨u, by rw [List.getElem?_append_left (by have := ho.1; omega)]; exact hu, row1 hu2⟩
    · exact ⟨rv, by have h1 := ho.1; rw [List.getElem?_append_right (by omega)]; simp [h1], row1 hrow⟩
  · exact ((hw.alloc (by omega) _).grown hgrow (by omega) (fun k hk => by have := (hlt k hk).1; omega)).setCell (by simp) _
  · have := hgrow.size; simp [World.setCell]; omega

theorem set2 {wr : World} {B : Nat} {x y x0 y0 : Value} (c0 : wr.cell? ⟨B, 0, none⟩ = some x0) (c1 : wr.cell? ⟨B, 1, none⟩ = some y0) :
    (wr.setCell ⟨B, 0, none⟩ x).cell? ⟨B, 0, none⟩ = some x ∧ ((wr.setCell ⟨B, 0, none⟩ x).setCell ⟨B, 1, none⟩ y).cell? ⟨B, 1, none⟩ = some y :=
  ⟨World.cell?_setCell_same' _ _ _ (by rw [c0]; rfl), World.cell?_setCell_same' _ _ _ (by rw [World.cell?_setCell_other _ _ _ _ (by simp), c1]; rfl)⟩
theorem FamInv.mat {w wr : World} {kk n c : Nat} {cl : Nat → Nat → Bool} {A : Option Addr} {rows : List Value} (h : FamParts w kk n cl n wr A c rows) (hn : n ≤ 64) (x y : Value) :
    (∃ R cc, Mat ((wr.setCell ⟨w.heap.size, 0, none⟩ x).setCell ⟨w.heap.size, 1, none⟩ y) A n R (fun _ => n) cc (famF n cl) ∧ FreshM (w.heap.size + 2) A n R (fun _ => n)) ∧ Below w.heap.size w ((wr.setCell ⟨w.heap.size, 0, none⟩ x).setCell ⟨w.heap.size, 1, none⟩ y) := by
  obtain ⟨_, _, ho, hr, hw, hs⟩ := h
  refine ⟨?_, (hw.setCell (Nat.le_refl _) _).setCell (Nat.le_refl _) _⟩
  have keep : ∀ {e v xs}, wr.ownsRow (w.heap.size + 2) e 1 v n xs → ((wr.setCell ⟨w.heap.size, 0, none⟩ x).setCell ⟨w.heap.size, 1, none⟩ y).ownsRow (w.heap.size + 2) e 1 v n xs := fun {e v xs} h =>
    ownsRow_setCell_below (ownsRow_setCell_below h (by simp) _) (by simp) _
  have ho2 := keep ho
  generalize (wr.setCell ⟨w.heap.size, 0, none⟩ x).setCell ⟨w.heap.size, 1, none⟩ y = W at keep ho2 ⊢
  have hch : ∀ i, ∃ p : Option Addr × Nat, i < n → rows[i]? = some (.slice p.1 n p.2) ∧ U64s W p.1 n (famF n cl i) ∧ ∀ k, k < n → ∃ b, p.1 = some ⟨b, 0, none⟩ ∧ w.heap.size + 2 ≤ b := fun i => by
    by_cases hi : i < n
    · obtain ⟨rv, h1, h2⟩ := hr i hi
      obtain ⟨A', c', rfl, hu⟩ := own_u64s (keep h2) (fun u _ => mkSet_lt64 hn)
      exact ⟨(A', c'), fun _ => ⟨h1, hu⟩⟩
    · exact ⟨(none, 0), fun h => absurd h hi⟩
  obtain ⟨f, hf⟩ := Classical.axiomOfChoice hch
  obtain ⟨A', c', he, hA⟩ := own_form ho2
  injection he with he1 he2 he3
  subst he1
  refine ⟨fun i => (f i).1, fun i => (f i).2, fun i hi => ?_, fun i hi => let ⟨b, e, hb, _⟩ := hA i hi; ⟨b, e, hb⟩, fun i hi j hj => (hf i hi).2.2 j hj⟩
  obtain ⟨b, rfl, _, _, hc⟩ := hA i hi
  exact ⟨b, 0, rfl, by rw [hc]; exact (hf i hi).1, by show n ≤ _; omega, (hf i hi).2.1⟩

def FamPost0 (kk n : Nat) (cl : Nat → Nat → Bool) (w : World) (e : Ending) (w' : World) : Prop :=
  ∃ A c R cc, e = .returned (.tuple #[.agg #[.int .i64 kk, .slice A n c], .int .i64 0]) ∧ Mat w' A n R (fun _ => n) cc (famF n cl) ∧ FreshM w.heap.size A n R (fun _ => n) ∧ Below w.heap.size w w'

set_option maxHeartbeats 1000000 in
theorem family_W (kk n : Nat) (cl : Nat → Nat → Bool) (w : World) (hk : kk ≤ 3) (hn : n = 2 ^ kk)
    (HK : ∀ (a b : Nat) (w : World), a < 8 → b < 8 → Calls Try.prog 39 #[.int .i64 a, .int .i64 b] w fun e w' => e = .returned (.bool (cl a b)) ∧ w = w') :
    Calls Try.prog 38 #[.int .i64 kk, .func (.func 39) #[] #[]] w (FamPost0 kk n cl w) := by
  have HH := Lib.hid HK
  have hw := wrap_pow hn (by omega)
  have hn8 := pow_le8 hn hk
  have hd1 : decide ((kk : Int) < 0) = false := by simp
  have hd2 : decide (3 < (kk : Int)) = false := by simp; omega
  have HN := Lib.hid hn
  clear hn HK
  obtain ⟨i0, hi, hz0, hz1, hz2⟩ := info_parts Try.infoU64
  obtain ⟨j0, hj, hy0, hy1, hy2⟩ := info_parts Try.infoU64s
  go_enter Try.func38, Try.ntmps38
  go_wp2
  go_loopw [23] (fun i wr => ∃ v : Nat, v ≤ n ∧ i = .int .i64 v ∧ FamInv w kk n cl v wr) (fun i _ => n - (intOf i).toNat)
  case atStart =>
    refine ⟨0, Nat.zero_le _, rfl, none, 0, [], ?_, ?_, World.ownsRow_nil _ _ _ _, fun i hi => absurd hi (Nat.not_lt_zero _), ?_, ?_⟩
    · exact ⟨by go_simp, by go_simp, by go_simp, by go_simp⟩
    · exact ⟨by go_simp, by go_simp, by go_simp⟩
    · exact ((Below.refl _ _).alloc (Nat.le_refl _) _).alloc (by simp) _
    · simp
  case round =>
    obtain ⟨v, hv, rfl, hinv⟩ := hrel
    by_cases hlt : v < n
    · go_wp2
      obtain ⟨wo, rfl⟩ : ∃ wo : World, wo = wr := ⟨_, rfl⟩
      go_loopw [8, 28] (fun o i wi => ∃ u : Nat, u ≤ n ∧ i = .int .i64 u ∧ wi.ownsRow wo.heap.size 32 1 o u (u64L (famF n cl v) u) ∧ Below wo.heap.size wo wi) (fun _ i _ => n - (intOf i).toNat)
      case atStart => exact ⟨0, Nat.zero_le _, rfl, World.ownsRow_nil _ _ _ _, Below.refl _ _⟩
      case round =>
        obtain ⟨u, hu, rfl, hown, hbl⟩ := hrel
        have hsz1 := hbl.size
        by_cases hult : u < n
        · go_wp2
          have hxv := i64_xor_nat u v (by omega) (by omega)
          have hxl : u ^^^ v < 8 := Nat.xor_lt_two_pow (n := 3) (by omega) (by omega)
          go_loop [10, 33] (fun o i => ∃ x : Nat, x ≤ n ∧ i = .int .i64 x ∧ o = .int .u64 (mkSet x (famIn cl v u) : Nat)) (fun _ i => n - (intOf i).toNat)
          case atStart => exact ⟨0, Nat.zero_le _, rfl, rfl⟩
          case round =>
            obtain ⟨x, hx, rfl, rfl⟩ := hrel
            by_cases hxlt : x < n
            · have hxw := i64_xor_nat x v (by omega) (by omega)
              have hxm : x ^^^ v < 8 := Nat.xor_lt_two_pow (n := 3) (by omega) (by omega)
              obtain ⟨P, hP⟩ : ∃ P, P = 2 ^ x := ⟨_, rfl⟩
              have hsh := shl_one hP (by omega)
              have HP := Lib.hid hP
              clear hP
              cases hcl : cl (u ^^^ v) (x ^^^ v)
              · go_wp2_with (go_at_call 39; refine (HH.out _ _ _ hxl hxm).mono ?_; rintro e w' ⟨rfl, rfl⟩)
                go_round
                case rel => exact ⟨x + 1, by omega, by go_num, by rw [mkSet_succ_no (p := famIn cl v u) hcl]⟩
                case measure => simp [intOf]; omega
              · have hor := or_mkSet (p := famIn cl v u) HP.out (by omega) hcl
                go_wp2_with (go_at_call 39; refine (HH.out _ _ _ hxl hxm).mono ?_; rintro e w' ⟨rfl, rfl⟩)
                go_round
                case rel => exact ⟨x + 1, by omega, by go_num, rfl⟩
                case measure => simp [intOf]; omega
            · obtain rfl : n = x := by omega
              go_wp2_with (at_builtin; refine wpList_append_own _ rfl _ _ 53 rfl wo.heap.size 32 i0 (.int .u64 0) 1 8 Try.underlying53 hi hz0 hz1 hz2 rfl (by decide) _ _ _ rfl (hown.alloc _) ⟨wr.heap.size, 0, none⟩ 1 1 [.int .u64 (mkSet n (famIn cl v u) : Nat)] rfl rfl (cell_one_new _ _ _) (one_oneCell rfl) (by unfold maxLen; omega) (by omega) (by simp; omega) ?_; intro v' w1 hown' hgrow _)
              go_round
              case rel => exact ⟨u + 1, by omega, by go_num, by rw [u64L_succ]; exact hown', (hbl.alloc hsz1 _).grown hgrow (by simp; omega) (fun k hk => (hown.lt k hk).1)⟩
              case measure => simp [intOf]; omega
        · obtain rfl : n = u := by omega
          obtain ⟨A, c, rows, hparts⟩ := hinv.below hbl
          have hbase : w.heap.size + 2 ≤ wr.heap.size := hparts.2.2.2.2.2
          have hbase2 : w.heap.size + 2 ≤ wo.heap.size := hinv.choose_spec.choose_spec.choose_spec.2.2.2.2.2
          have hrow := own_mono hown hbase2
          obtain ⟨A2, c2, rfl, _⟩ := own_form hrow
          have HP := Lib.hid hparts
          have HR := Lib.hid hrow
          obtain ⟨_, ⟨d0, d1, g1⟩, hoo, _⟩ := hparts
          have HO := Lib.hid hoo
          clear hoo hrow hown hinv
          go_wp2_with (at_builtin; refine wpList_append_own _ rfl _ _ 22 rfl (w.heap.size + 2) 53 j0 (.slice none 0 0) 1 24 Try.underlying22 hj hy0 hy1 hy2 rfl (by decide) _ _ _ rfl (HO.out.alloc _) ⟨wr.heap.size, 0, none⟩ 1 1 [.slice A2 n c2] rfl rfl (cell_one_new _ _ _) (one_oneCell rfl) (by unfold maxLen; omega) (by omega) (by simp; omega) ?_; intro v' w1 hown' hgrow _; obtain ⟨g', cap', rfl⟩ := own_succ hown'; obtain ⟨e0, e1⟩ := FamParts.cells1 HP.out hgrow)
          go_round
          case rel => exact ⟨v + 1, by omega, by go_num, FamInv.step HP.out HR.out hown' hgrow⟩
          case measure => simp [intOf]; omega
    · obtain rfl : n = v := by omega
      obtain ⟨A, c, rows, hparts⟩ := hinv
      have HM := Lib.hid (FamInv.mat hparts (by omega) (.int .i64 kk) (.slice A n c))
      obtain ⟨⟨c0, c1, f0, f1⟩, ⟨d0, d1, g1⟩, _⟩ := hparts
      obtain ⟨k0, k1⟩ := set2 (x := .int .i64 kk) (y := .slice A n c) c0 c1
      go_wp2
      refine bodyPost_ret (v := .tuple #[.agg #[.int .i64 kk, .slice A n c], .int .i64 0]) (by simp [results, Try.results38, go_sem, k0, k1]) rfl ?_
      obtain ⟨⟨R, cc, hm, hf⟩, hb⟩ := HM.out
      exact ⟨A, c, R, cc, rfl, hm, hf.mono (by omega), hb⟩
set_option maxHeartbeats 1000000 in
theorem family_F (kk n : Nat) (cl : Nat → Nat → Bool) (w : World) (hk : kk ≤ 3) (hn : n = 2 ^ kk)
    (HK : ∀ (a b : Nat) (w : World), a < 8 → b < 8 → Calls Try.prog 41 #[.int .i64 a, .int .i64 b] w fun e w' => e = .returned (.bool (cl a b)) ∧ w = w') :
    Calls Try.prog 38 #[.int .i64 kk, .func (.func 41) #[] #[]] w (FamPost0 kk n cl w) := by
  have HH := Lib.hid HK
  have hw := wrap_pow hn (by omega)
  have hn8 := pow_le8 hn hk
  have hd1 : decide ((kk : Int) < 0) = false := by simp
  have hd2 : decide (3 < (kk : Int)) = false := by simp; omega
  have HN := Lib.hid hn
  clear hn HK
  obtain ⟨i0, hi, hz0, hz1, hz2⟩ := info_parts Try.infoU64
  obtain ⟨j0, hj, hy0, hy1, hy2⟩ := info_parts Try.infoU64s
  go_enter Try.func38, Try.ntmps38
  go_wp2
  go_loopw [23] (fun i wr => ∃ v : Nat, v ≤ n ∧ i = .int .i64 v ∧ FamInv w kk n cl v wr) (fun i _ => n - (intOf i).toNat)
  case atStart =>
    refine ⟨0, Nat.zero_le _, rfl, none, 0, [], ?_, ?_, World.ownsRow_nil _ _ _ _, fun i hi => absurd hi (Nat.not_lt_zero _), ?_, ?_⟩
    · exact ⟨by go_simp, by go_simp, by go_simp, by go_simp⟩
    · exact ⟨by go_simp, by go_simp, by go_simp⟩
    · exact ((Below.refl _ _).alloc (Nat.le_refl _) _).alloc (by simp) _
    · simp
  case round =>
    obtain ⟨v, hv, rfl, hinv⟩ := hrel
    by_cases hlt : v < n
    · go_wp2
      obtain ⟨wo, rfl⟩ : ∃ wo : World, wo = wr := ⟨_, rfl⟩
      go_loopw [8, 28] (fun o i wi => ∃ u : Nat, u ≤ n ∧ i = .int .i64 u ∧ wi.ownsRow wo.heap.size 32 1 o u (u64L (famF n cl v) u) ∧ Below wo.heap.size wo wi) (fun _ i _ => n - (intOf i).toNat)
      case atStart => exact ⟨0, Nat.zero_le _, rfl, World.ownsRow_nil _ _ _ _, Below.refl _ _⟩
      case round =>
        obtain ⟨u, hu, rfl, hown, hbl⟩ := hrel
        have hsz1 := hbl.size
        by_cases hult : u < n
        · go_wp2
          have hxv := i64_xor_nat u v (by omega) (by omega)
          have hxl : u ^^^ v < 8 := Nat.xor_lt_two_pow (n := 3) (by omega) (by omega)
          go_loop [10, 33] (fun o i => ∃ x : Nat, x ≤ n ∧ i = .int .i64 x ∧ o = .int .u64 (mkSet x (famIn cl v u) : Nat)) (fun _ i => n - (intOf i).toNat)
          case atStart => exact ⟨0, Nat.zero_le _, rfl, rfl⟩
          case round =>
            obtain ⟨x, hx, rfl, rfl⟩ := hrel
            by_cases hxlt : x < n
            · have hxw := i64_xor_nat x v (by omega) (by omega)
              have hxm : x ^^^ v < 8 := Nat.xor_lt_two_pow (n := 3) (by omega) (by omega)
              obtain ⟨P, hP⟩ : ∃ P, P = 2 ^ x := ⟨_, rfl⟩
              have hsh := shl_one hP (by omega)
              have HP := Lib.hid hP
              clear hP
              cases hcl : cl (u ^^^ v) (x ^^^ v)
              · go_wp2_with (go_at_call 41; refine (HH.out _ _ _ hxl hxm).mono ?_; rintro e w' ⟨rfl, rfl⟩)
                go_round
                case rel => exact ⟨x + 1, by omega, by go_num, by rw [mkSet_succ_no (p := famIn cl v u) hcl]⟩
                case measure => simp [intOf]; omega
              · have hor := or_mkSet (p := famIn cl v u) HP.out (by omega) hcl
                go_wp2_with (go_at_call 41; refine (HH.out _ _ _ hxl hxm).mono ?_; rintro e w' ⟨rfl, rfl⟩)
                go_round
                case rel => exact ⟨x + 1, by omega, by go_num, rfl⟩
                case measure => simp [intOf]; omega
            · obtain rfl : n = x := by omega
              go_wp2_with (at_builtin; refine wpList_append_own _ rfl _ _ 53 rfl wo.heap.size 32 i0 (.int .u64 0) 1 8 Try.underlying53 hi hz0 hz1 hz2 rfl (by decide) _ _ _ rfl (hown.alloc _) ⟨wr.heap.size, 0, none⟩ 1 1 [.int .u64 (mkSet n (famIn cl v u) : Nat)] rfl rfl (cell_one_new _ _ _) (one_oneCell rfl) (by unfold maxLen; omega) (by omega) (by simp; omega) ?_; intro v' w1 hown' hgrow _)
              go_round
              case rel => exact ⟨u + 1, by omega, by go_num, by rw [u64L_succ]; exact hown', (hbl.alloc hsz1 _).grown hgrow (by simp; omega) (fun k hk => (hown.lt k hk).1)⟩
              case measure => simp [intOf]; omega
        · obtain rfl : n = u := by omega
          obtain ⟨A, c, rows, hparts⟩ := hinv.below hbl
          have hbase : w.heap.size + 2 ≤ wr.heap.size := hparts.2.2.2.2.2
          have hbase2 : w.heap.size + 2 ≤ wo.heap.size := hinv.choose_spec.choose_spec.choose_spec.2.2.2.2.2
          have hrow := own_mono hown hbase2
          obtain ⟨A2, c2, rfl, _⟩ := own_form hrow
          have HP := Lib.hid hparts
          have HR := Lib.hid hrow
          obtain ⟨_, ⟨d0, d1, g1⟩, hoo, _⟩ := hparts
          have HO := Lib.hid hoo
          clear hoo hrow hown hinv
          go_wp2_with (at_builtin; refine wpList_append_own _ rfl _ _ 22 rfl (w.heap.size + 2) 53 j0 (.slice none 0 0) 1 24 Try.underlying22 hj hy0 hy1 hy2 rfl (by decide) _ _ _ rfl (HO.out.alloc _) ⟨wr.heap.size, 0, none⟩ 1 1 [.slice A2 n c2] rfl rfl (cell_one_new _ _ _) (one_oneCell rfl) (by unfold maxLen; omega) (by omega) (by simp; omega) ?_; intro v' w1 hown' hgrow _; obtain ⟨g', cap', rfl⟩ := own_succ hown'; obtain ⟨e0, e1⟩ := FamParts.cells1 HP.out hgrow)
          go_round
          case rel => exact ⟨v + 1, by omega, by go_num, FamInv.step HP.out HR.out hown' hgrow⟩
          case measure => simp [intOf]; omega
    · obtain rfl : n = v := by omega
      obtain ⟨A, c, rows, hparts⟩ := hinv
      have HM := Lib.hid (FamInv.mat hparts (by omega) (.int .i64 kk) (.slice A n c))
      obtain ⟨⟨c0, c1, f0, f1⟩, ⟨d0, d1, g1⟩, _⟩ := hparts
      obtain ⟨k0, k1⟩ := set2 (x := .int .i64 kk) (y := .slice A n c) c0 c1
      go_wp2
      refine bodyPost_ret (v := .tuple #[.agg #[.int .i64 kk, .slice A n c], .int .i64 0]) (by simp [results, Try.results38, go_sem, k0, k1]) rfl ?_
      obtain ⟨⟨R, cc, hm, hf⟩, hb⟩ := HM.out
      exact ⟨A, c, R, cc, rfl, hm, hf.mono (by omega), hb⟩
end Go.Proofs.Ytgnmelmmcpmhoaa
