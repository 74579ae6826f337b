/- Package head: Of. -/
import Derived.Test.YtjeligbgcofaeaaDoorHdA
namespace Go.Proofs.YtjeligbgcofaeaaDoor
open Go.RowKit
set_option linter.unusedVariables false
set_option linter.unusedSimpArgs false

def ofB (n : Int) (i k : Nat) : Int := if i < k then n / 2 ^ (40 - 8 * i) % 256 else 0
def ofC (n : Int) (k : Nat) : List Value := [.int .u8 (ofB n 0 k), .int .u8 (ofB n 1 k), .int .u8 (ofB n 2 k), .int .u8 (ofB n 3 k), .int .u8 (ofB n 4 k), .int .u8 (ofB n 5 k)]
def ofMac (n : Int) : Mac6 := ⟨ofB n 0 6, ofB n 1 6, ofB n 2 6, ofB n 3 6, ofB n 4 6, ofB n 5 6⟩
set_option maxRecDepth 100000 in
set_option maxHeartbeats 4000000 in
theorem hd_Of (n : Int) (w : World) (h0 : 0 ≤ n) (h1 : n ≤ 18446744073709551615) :
    Calls Tryd.prog 48 #[.int .u64 n] w fun e w' => e = .returned (.agg (ofC n 6).toArray) ∧ Below w.heap.size w w' := by
  have hz : Blk ((w.alloc (.cells #[.int .u8 0, .int .u8 0, .int .u8 0, .int .u8 0, .int .u8 0, .int .u8 0] 27)).alloc (.cells #[.int .u8 0, .int .u8 0, .int .u8 0, .int .u8 0, .int .u8 0, .int .u8 0] 27)) (w.heap.size + 1) 27 #[.int .u8 0, .int .u8 0, .int .u8 0, .int .u8 0, .int .u8 0, .int .u8 0] := by
    have := Blk.new (w.alloc (.cells #[.int .u8 0, .int .u8 0, .int .u8 0, .int .u8 0, .int .u8 0, .int .u8 0] 27)) 27 #[.int .u8 0, .int .u8 0, .int .u8 0, .int .u8 0, .int .u8 0, .int .u8 0]
    simpa using this
  have hr : Blk ((w.alloc (.cells #[.int .u8 0, .int .u8 0, .int .u8 0, .int .u8 0, .int .u8 0, .int .u8 0] 27)).alloc (.cells #[.int .u8 0, .int .u8 0, .int .u8 0, .int .u8 0, .int .u8 0, .int .u8 0] 27)) w.heap.size 27 #[.int .u8 0, .int .u8 0, .int .u8 0, .int .u8 0, .int .u8 0, .int .u8 0] := (Blk.new w _ _).below ((Below.refl _ _).alloc (Nat.le_refl _) _) (by simp)
  have hb : Below w.heap.size w ((w.alloc (.cells #[.int .u8 0, .int .u8 0, .int .u8 0, .int .u8 0, .int .u8 0, .int .u8 0] 27)).alloc (.cells #[.int .u8 0, .int .u8 0, .int .u8 0, .int .u8 0, .int .u8 0, .int .u8 0] 27)) := ((Below.refl _ _).alloc (Nat.le_refl _) _).alloc (by simp) _
  have HS : Hid (Blk _ (w.heap.size + 1) 27 (ofC n 0).toArray ∧ Blk _ w.heap.size 27 #[.int .u8 0, .int .u8 0, .int .u8 0, .int .u8 0, .int .u8 0, .int .u8 0] ∧ Below w.heap.size w _) := Lib.hid ⟨hz, hr, hb⟩
  clear hz hr hb
  go_enter Tryd.func48, Tryd.ntmps48
  go_upto_region 2 with fail
  refine wp_gen (fun W => Blk W (w.heap.size + 1) 27 (ofC n 0).toArray ∧ Blk W w.heap.size 27 #[.int .u8 0, .int .u8 0, .int .u8 0, .int .u8 0, .int .u8 0, .int .u8 0] ∧ Below w.heap.size w W) HS.out ?_
  intro W hW
  have HW := Lib.hid hW
  clear HS hW
  go_wp2_with fail
  go_loopw [5] (fun i wr => ∃ k : Nat, k ≤ 6 ∧ i = .int .i64 k ∧ Hid (Blk wr (w.heap.size + 1) 27 (ofC n k).toArray ∧ Blk wr w.heap.size 27 #[.int .u8 0, .int .u8 0, .int .u8 0, .int .u8 0, .int .u8 0, .int .u8 0] ∧ Below w.heap.size w wr)) (fun i _ => 6 - (intOf i).toNat)
  case atStart => exact ⟨0, by omega, rfl, HW⟩
  case round =>
    clear HW
    obtain ⟨k, hk, rfl, HS⟩ := hrel
    have y0 : wr.cell? ⟨w.heap.size + 1, 0, none⟩ = some (.int .u8 (ofB n 0 k)) := HS.out.1.cell 0
    have y1 : wr.cell? ⟨w.heap.size + 1, 1, none⟩ = some (.int .u8 (ofB n 1 k)) := HS.out.1.cell 1
    have y2 : wr.cell? ⟨w.heap.size + 1, 2, none⟩ = some (.int .u8 (ofB n 2 k)) := HS.out.1.cell 2
    have y3 : wr.cell? ⟨w.heap.size + 1, 3, none⟩ = some (.int .u8 (ofB n 3 k)) := HS.out.1.cell 3
    have y4 : wr.cell? ⟨w.heap.size + 1, 4, none⟩ = some (.int .u8 (ofB n 4 k)) := HS.out.1.cell 4
    have y5 : wr.cell? ⟨w.heap.size + 1, 5, none⟩ = some (.int .u8 (ofB n 5 k)) := HS.out.1.cell 5
    have f0 := HS.out.1.free 0
    have f1 := HS.out.1.free 1
    have f2 := HS.out.1.free 2
    have f3 := HS.out.1.free 3
    have f4 := HS.out.1.free 4
    have f5 := HS.out.1.free 5
    by_cases hlt : k < 6
    · have hkc : k = 0 ∨ k = 1 ∨ k = 2 ∨ k = 3 ∨ k = 4 ∨ k = 5 := by omega
      have HN : ∀ u, ofC n (k + 1) = (ofC n k).set k u → Hid (Blk (wr.setCell ⟨w.heap.size + 1, k, none⟩ u) (w.heap.size + 1) 27 (ofC n (k + 1)).toArray ∧ Blk (wr.setCell ⟨w.heap.size + 1, k, none⟩ u) w.heap.size 27 #[.int .u8 0, .int .u8 0, .int .u8 0, .int .u8 0, .int .u8 0, .int .u8 0] ∧ Below w.heap.size w (wr.setCell ⟨w.heap.size + 1, k, none⟩ u)) := fun u e => by
        rw [e]
        exact Lib.hid ⟨HS.out.1.set_ k u, HS.out.2.1.grown (grownBy_setCell _ _ _ _) (by omega), below_grown HS.out.2.2 (grownBy_setCell _ _ _ _) (by omega)⟩
      have HN' := Lib.hid HN
      clear HN hk
      rcases hkc with rfl | rfl | rfl | rfl | rfl | rfl
      all_goals
        go_wp2_with fail
        go_roundw
        case rel => exact ⟨_ + 1, by omega, by go_num, HN'.out _ (by simp [ofC, ofB])⟩
        case measure => simp [intOf]
    · obtain rfl : k = 6 := by omega
      have hB := HS.out.2.2
      have HZ := Lib.hid HS.out.2.1
      have HB := Lib.hid hB
      clear hB HS
      go_wp2_with (refine wpList_store_blk rfl 27 (.tmp 2) (.tmp 17) rfl w.heap.size 27 _ (ofC n 6) rfl rfl HZ.out ?hsz ?hi ?h1 ?_)
      case hsz => rfl
      case hi => rfl
      case h1 => intro u hu; simp [ofC] at hu; rcases hu with rfl | rfl | rfl | rfl | rfl | rfl <;> rfl
      intro w2 hz hg
      have HZ2 := Lib.hid hz
      have HG2 := Lib.hid hg
      clear hz hg
      go_wp2_with fail
      refine bodyPost_ret (results_cell_row rfl _ _ w.heap.size 27 _ (0, 0) _ rfl HZ2.out.heap Tryd.underlying27 rfl rfl) rfl ?_
      exact ⟨rfl, below_grown HB.out HG2.out (Nat.le_refl _)⟩
end Go.Proofs.YtjeligbgcofaeaaDoor
