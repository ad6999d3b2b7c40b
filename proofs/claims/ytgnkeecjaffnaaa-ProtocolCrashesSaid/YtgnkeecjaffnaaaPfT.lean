/-
  Walks of layer 54: merge of the reference.
-/
import Derived.Test.YtgnkeecjaffnaaaProg
import Derived.Test.YtgnkeecjaffnaaaBase
import Derived.Test.YtgnkeecjaffnaaaRow
import Derived.Test.YtgnkeecjaffnaaaRowsOf
import Derived.Test.YtgnkeecjaffnaaaTail
import Derived.Test.YtgnkeecjaffnaaaPc
import Derived.Test.YtgnkeecjaffnaaaPd
import Derived.Test.YtgnkeecjaffnaaaPfP
import Derived.Test.YtgnkeecjaffnaaaPfQ
import Derived.Maps.AppendAt
import Derived.Deep.RegionHeld3
import Derived.Deep.AppendLies
namespace Go.Proofs.Ytgnkeecjaffnaaa
open Go.RowKit

/-- What is known of a process's value: 0, or one more than it. -/
def kvN (x a k : Nat) : Nat := if a.testBit k then 1 + (if x.testBit k then 1 else 0) else 0
theorem kvN_le (x a k : Nat) : kvN x a k ≤ 2 := by unfold kvN; split <;> (try split) <;> omega
theorem kv_or (x a b k : Nat) : max (kvN x a k) (kvN x b k) = kvN x (a ||| b) k := by
  unfold kvN
  rw [Nat.testBit_or]
  cases a.testBit k <;> cases b.testBit k <;> simp
set_option maxHeartbeats 1000000 in
theorem merge_any (x a b n c c' : Nat) (A A' : Option Addr) (w : World) (hf : I64s w A n (fun k => (kvN x a k : Int))) (hg : I64s w A' n (fun k => (kvN x b k : Int))) (hn : n ≤ 4) :
    Calls Try.prog 75 #[.slice A n c, .slice A' n c'] w fun e w' => ∃ v, e = .returned v ∧ w'.ownsRow w.heap.size 3 1 v n (i64L (fun k => (kvN x (a ||| b) k : Int)) n) ∧ Below w.heap.size w w' := by
  have HF := Lib.hid hf
  have HG := Lib.hid hg
  clear hf hg
  go_enter Try.func75, Try.ntmps75
  go_wp2_with fail
  go_loopw [5, 6] (fun lv iv wr => ∃ i : Nat, i ≤ n ∧ iv = .int .i64 i ∧ wr.ownsRow w.heap.size 3 1 lv i (i64L (fun k => (kvN x (a ||| b) k : Int)) i) ∧ Below w.heap.size w wr) (fun _ iv _ => n - (intOf iv).toNat)
  case atStart => exact ⟨0, Nat.zero_le _, rfl, World.ownsRow_nil _ _ _ _, Below.refl _ _⟩
  case round =>
    obtain ⟨i, hi, rfl, hown, hbl⟩ := hrel
    by_cases hlt : i < n
    · obtain ⟨bf, of, rfl, cf0, -⟩ := HF.out i hlt
      obtain ⟨bg, og, rfl, cg0, -⟩ := HG.out i hlt
      have hmx := kv_or x a b i
      have l1 := kvN_le x a i
      have l2 := kvN_le x b i
      dsimp only at cf0 cg0
      obtain ⟨p, ep⟩ : ∃ p, p = kvN x a i := ⟨_, rfl⟩
      obtain ⟨q, eq⟩ : ∃ p, p = kvN x b i := ⟨_, rfl⟩
      obtain ⟨m, em⟩ : ∃ p, p = kvN x (a ||| b) i := ⟨_, rfl⟩
      rw [← ep] at cf0 hmx l1
      rw [← eq] at cg0 hmx l2
      have cf := cell_below hbl cf0
      have cg := cell_below hbl cg0
      rw [← em] at hmx
      have EM := Lib.hid em
      have HOW := Lib.hid hown
      have HBX := Lib.hid hbl
      have hin : (i : Int) < (n : Int) := by omega
      clear ep eq em hown hbl
      go_upto_region 5 with (fail)
      obtain ⟨Al, cl, rfl, -⟩ := own_form HOW.out
      have HOWd : Hid (wr.drew.ownsRow w.heap.size 3 1 (.slice Al i cl) i (i64L (fun k => (kvN x (a ||| b) k : Int)) i)) := Lib.hid HOW.out
      have HBd := below_drew HBX.out
      have hmi : max (p : Int) (q : Int) = (m : Int) := by omega
      go_region_held3 (fun z => z.cell? ⟨bf, of + i, none⟩ = some (.int .i64 p) ∧ z.cell? ⟨bg, og + i, none⟩ = some (.int .i64 q)) (first | exact ⟨cf, cg⟩ | exact ⟨by assumption, by assumption⟩ | exact ⟨cell_below HB5 cf0, cell_below HB5 cg0⟩ | exact ⟨cell_below (below_alloc _ _) cf, cell_below (below_alloc _ _) cg⟩)
        (first | (obtain ⟨i0, hi, hz0, hz1, hz2⟩ := info_parts Try.infoInt; refine step_append_lies _ (by rfl) _ _ _ (by rfl) w.heap.size 3 i0 _ 1 8 Try.underlying38 hi hz0 hz1 hz2 rfl (by decide) (.slice Al i cl) i (i64L (fun k => (kvN x (a ||| b) k : Int)) i) (by rfl) (own_alloc' HOWd.out _) _ 1 1 [.int .i64 m] (by rfl) (by rfl) (World.news_of_block (cs := #[.int .i64 m]) (t := 3) (fr := (0, 0)) (by exact Blk.new' _ _ _ _ (by first | (simp; done) | rfl))) (by simp [Value.oneCell']) (by decide) (by unfold maxLen; omega) (by omega) (by have := HBX.out.size; simp; omega) _ rfl ?_; intro g5 c5 w5 hown5 hgrow5 _ _; have HOW5 := Lib.hid hown5; have HB5 := below_append HBd rfl HOWd.out hgrow5; clear hi hz0 hz1 hz2 hown5 hgrow5) | fail)
      all_goals (
        go_wp2_with fail
        go_roundw
        case rel => exact ⟨i + 1, by omega, by go_num, by rw [i64L_succ, ← EM.out]; exact HOW5.out, HB5⟩
        case measure => simp [intOf]; omega)
    · obtain rfl : i = n := by omega
      have HOW := Lib.hid hown
      have HBX := Lib.hid hbl
      clear hown hbl
      go_wp2_with fail
      go_ret
      exact ⟨_, rfl, HOW.out, HBX.out⟩
end Go.Proofs.Ytgnkeecjaffnaaa
