/- match.On, match.Exact, rules.On at the document's example. -/
import Derived.Test.YtjeligbgcofaeaaDoorRuI
import Derived.Test.YtjeligbgcofaeaaDoorRuD
namespace Go.Proofs.YtjeligbgcofaeaaDoor
open Go.RowKit
set_option linter.unusedVariables false
set_option linter.unusedSimpArgs false

def z9 : List Int := [0, 0, 0, 0, 0, 0, 0, 0, 0]
def mv80 : List Int := [0, 0, 0, 0, 0, 0, 0, 0, 80]
def mk80 : List Int := [0, 0, 0, 0, 0, 0, 0, 0, 65535]
set_option maxRecDepth 100000 in
set_option maxHeartbeats 4000000 in
theorem mat_On80 (w : World) (hT : Tab w) :
    Calls Tryd.prog 53 #[.int .i64 8, .int .u64 80, .int .u64 65535] w fun e w' => e = .returned (.tuple #[.agg (matC mv80 mk80).toArray, .int .i64 0]) ∧ Below w.heap.size w w' := by
  obtain ⟨ms, hms⟩ : ∃ ms, ms = matC mv80 mk80 := ⟨_, rfl⟩
  have h1 : Hid (∀ u ∈ ms, u.oneCell' = true) := Lib.hid (by rw [hms]; exact matC_one _ _)
  have hl : Hid (ms.length = 18) := Lib.hid (by rw [hms]; rfl)
  have HMS := Lib.hid hms
  rw [← hms]
  clear hms
  have a1 : bits .andNot .u64 65535 65535 = 0 := by decide
  have a2 : bits .andNot .u64 80 65535 = 0 := by decide
  have HT := Lib.hid hT
  have C := Lib.hid (fun W (q : Below w.heap.size w W) => (show Calls Tryd.prog 27 #[.int .i64 8] W (fun e w' => e = .returned (.int .u64 65535) ∧ w' = W) from hd_Full 8 W (hT.below q) (by omega)))
  have hb0 : Below w.heap.size w (w.alloc (.cells #[.int .u64 0, .int .u64 0, .int .u64 0, .int .u64 0, .int .u64 0, .int .u64 0, .int .u64 0, .int .u64 0, .int .u64 0, .int .u64 0, .int .u64 0, .int .u64 0, .int .u64 0, .int .u64 0, .int .u64 0, .int .u64 0, .int .u64 0, .int .u64 0] 76)) := (Below.refl _ _).alloc (Nat.le_refl _) _
  have HB0 := Lib.hid hb0
  have HK0 := Lib.hid (Blk.new w 76 (matC z9 z9).toArray)
  clear hT hb0
  go_enter Tryd.func53, Tryd.ntmps53
  go_upto_region 3 with (first
    | (go_at_call 27; (with_reducible refine (C.out _ HB0.out).mono ?_); rintro e u ⟨rfl, rfl⟩)
    | fail)
  refine wp_gen (fun W => Below w.heap.size w W ∧ Blk W w.heap.size 76 (matC z9 z9).toArray) ⟨HB0.out, HK0.out⟩ ?_
  rintro W ⟨hW, k1⟩
  have HW := Lib.hid hW
  have K1 := Lib.hid (k1.below ((Below.refl _ _).alloc (Nat.le_refl _) (.cells (matC z9 z9).toArray 76)) k1.lt)
  have K2 := Lib.hid (Blk.new W 76 (matC z9 z9).toArray)
  have HWA := Lib.hid (hW.alloc hW.size (.cells (matC z9 z9).toArray 76))
  have HGE : w.heap.size ≤ W.heap.size := hW.size
  have HNE : w.heap.size ≠ W.heap.size := Nat.ne_of_lt k1.lt
  have HGE' := Lib.hid HGE
  have HNE' := Lib.hid HNE
  clear hW k1 HB0 HK0 HGE HNE
  go_upto_region 4 with fail
  refine wp_gen (fun V => Below w.heap.size w V ∧ Blk V w.heap.size 76 (matC z9 z9).toArray ∧ Blk V W.heap.size 76 (matC z9 z9).toArray) ⟨HWA.out, K1.out, K2.out⟩ ?_
  rintro V ⟨hV, k1, k2⟩
  have f1 : V.frozen? ⟨W.heap.size, 8, none⟩ = false := k2.free 8
  have c1 : V.cell? ⟨W.heap.size, 8, none⟩ = some (.int .u64 0) := k2.cell 8
  have f2 : ∀ v, (V.setCell ⟨W.heap.size, 8, none⟩ v).frozen? ⟨W.heap.size, 17, none⟩ = false := fun v => (k2.set_ (cs := matC z9 z9) 8 v).free 17
  have c2 : V.cell? ⟨W.heap.size, 17, none⟩ = some (.int .u64 0) := k2.cell 17
  have hg := grownBy_trans (grownBy_setCell V W.heap.size 8 (.int .u64 80)) (grownBy_setCell _ W.heap.size 17 (.int .u64 65535))
  have HX : Hid (Below w.heap.size w ((V.setCell ⟨W.heap.size, 8, none⟩ (.int .u64 80)).setCell ⟨W.heap.size, 17, none⟩ (.int .u64 65535)) ∧ Blk ((V.setCell ⟨W.heap.size, 8, none⟩ (.int .u64 80)).setCell ⟨W.heap.size, 17, none⟩ (.int .u64 65535)) w.heap.size 76 (matC z9 z9).toArray ∧ Blk ((V.setCell ⟨W.heap.size, 8, none⟩ (.int .u64 80)).setCell ⟨W.heap.size, 17, none⟩ (.int .u64 65535)) W.heap.size 76 ms.toArray) := Lib.hid ⟨below_grown hV hg HGE'.out, k1.grown hg HNE'.out, by rw [HMS.out]; exact (k2.set_ (cs := matC z9 z9) 8 (.int .u64 80)).set_ 17 (.int .u64 65535)⟩
  clear hV k1 k2 hg K1 K2 HWA
  go_upto_region 5 with fail
  refine wp_gen (fun V => Below w.heap.size w V ∧ Blk V w.heap.size 76 (matC z9 z9).toArray ∧ Blk V W.heap.size 76 ms.toArray) HX.out ?_
  rintro V ⟨hV, k1, k2⟩
  have HV := Lib.hid hV
  have K1 := Lib.hid k1
  have RNG := Lib.hid k2.range
  clear hV k1 k2 HX f1 c1 f2 c2
  go_wp2_with (first
    | (refine wpList_load_mid rfl 76 (.tmp 8) rfl W.heap.size 0 rfl ms _ RNG.out Tryd.underlying76 rfl (by rw [hl.out]; kernel_rfl) ?_)
    | (refine wpList_store_blk rfl 76 (.tmp 6) (.tmp 37) rfl w.heap.size 76 _ ms rfl rfl K1.out (by rw [hl.out]; rfl) (by rw [hl.out]; kernel_rfl) h1.out ?_; intro W3 hz hg; have HZ3 := Lib.hid hz; have HG3 := Lib.hid hg; clear hz hg)
    | fail)
  refine bodyPost_ret (results_cell_row_tmp rfl _ _ w.heap.size 76 _ (0, 0) _ rfl HZ3.out.heap Tryd.underlying76 rfl (by simp only [List.size_toArray, hl.out]; kernel_rfl)) rfl ?_
  exact ⟨rfl, below_grown HV.out HG3.out (Nat.le_refl _)⟩
set_option maxRecDepth 100000 in
set_option maxHeartbeats 4000000 in
theorem mat_Exact80 (w : World) (hT : Tab w) :
    Calls Tryd.prog 35 #[.int .i64 8, .int .u64 80] w fun e w' => e = .returned (.tuple #[.agg (matC mv80 mk80).toArray, .int .i64 0]) ∧ Below w.heap.size w w' := by
  have C := Lib.hid (fun W (q : Below w.heap.size w W) => (show Calls Tryd.prog 27 #[.int .i64 8] W (fun e w' => e = .returned (.int .u64 65535) ∧ w' = W) from hd_Full 8 W (hT.below q) (by omega)))
  have D := Lib.hid (fun W (q : Below w.heap.size w W) => mat_On80 W (hT.below q))
  have hb0 : Below w.heap.size w (w.alloc (.cells #[.int .u64 0, .int .u64 0, .int .u64 0, .int .u64 0, .int .u64 0, .int .u64 0, .int .u64 0, .int .u64 0, .int .u64 0, .int .u64 0, .int .u64 0, .int .u64 0, .int .u64 0, .int .u64 0, .int .u64 0, .int .u64 0, .int .u64 0, .int .u64 0] 76)) := (Below.refl _ _).alloc (Nat.le_refl _) _
  have HB0 := Lib.hid hb0
  have HK0 := Lib.hid (Blk.new w 76 (matC z9 z9).toArray)
  obtain ⟨ms, hms⟩ : ∃ ms, ms = matC mv80 mk80 := ⟨_, rfl⟩
  have h1 : Hid (∀ u ∈ ms, u.oneCell' = true) := Lib.hid (by rw [hms]; exact matC_one _ _)
  have hl : Hid (ms.length = 18) := Lib.hid (by rw [hms]; rfl)
  rw [← hms] at D
  rw [← hms]
  clear hT hb0 hms
  go_enter Tryd.func35, Tryd.ntmps35
  go_wp2_with (first
    | (go_at_call 27; (with_reducible refine (C.out _ HB0.out).mono ?_); rintro e u ⟨rfl, rfl⟩)
    | (go_at_call 53; (with_reducible refine (D.out _ HB0.out).mono ?_); rintro e u ⟨rfl, hb⟩; have HB1 := Lib.hid hb; have K1 := Lib.hid (HK0.out.below hb HK0.out.lt); clear hb)
    | (refine wpList_store_blk rfl 76 (.tmp 4) (.tmp 11) rfl w.heap.size 76 _ ms rfl rfl K1.out (by rw [hl.out]; rfl) (by rw [hl.out]; kernel_rfl) h1.out ?_; intro W3 hz hg; have HZ3 := Lib.hid hz; have HG3 := Lib.hid hg; clear hz hg)
    | fail)
  refine bodyPost_ret (results_cell_row_tmp rfl _ _ w.heap.size 76 _ (0, 0) _ rfl HZ3.out.heap Tryd.underlying76 rfl (by simp only [List.size_toArray, hl.out]; kernel_rfl)) rfl ?_
  exact ⟨rfl, below_grown (below_step HB0.out HB1.out) HG3.out (Nat.le_refl _)⟩
def act2 : Act9 := ⟨1, 2, 0, 0, 0, 0, 0, 0, 0, 0⟩
def act1 : Act9 := ⟨1, 0, 0, 0, 0, 0, 0, 0, 0, 0⟩
set_option maxRecDepth 100000 in
set_option maxHeartbeats 4000000 in
theorem act_On2 (w : World) (hT : Tab w) :
    Calls Tryd.prog 36 #[.int .i64 0, .int .u64 2] w fun e w' => e = .returned (.tuple #[.agg act2.vals.toArray, .int .i64 0]) ∧ Below w.heap.size w w' := by
  obtain ⟨a, ha⟩ : ∃ a, a = act2 := ⟨_, rfl⟩
  have HAA := Lib.hid ha
  rw [← ha]
  clear ha
  have HT := Lib.hid hT
  have C := Lib.hid (fun W (q : Below w.heap.size w W) => (show Calls Tryd.prog 27 #[.int .i64 0] W (fun e w' => e = .returned (.int .u64 255) ∧ w' = W) from hd_Full 0 W (hT.below q) (by omega)))
  have hb0 : Below w.heap.size w (w.alloc (.cells #[.int .i64 0, .int .u64 0, .int .u64 0, .int .u64 0, .int .u64 0, .int .u64 0, .int .u64 0, .int .u64 0, .int .u64 0, .int .u64 0] 25)) := (Below.refl _ _).alloc (Nat.le_refl _) _
  have HB0 := Lib.hid hb0
  have HK0 := Lib.hid (Blk.new w 25 zeroA.vals.toArray)
  clear hT hb0
  go_enter Tryd.func36, Tryd.ntmps36
  go_upto_region 3 with (first
    | (go_at_call 27; (with_reducible refine (C.out _ HB0.out).mono ?_); rintro e u ⟨rfl, rfl⟩)
    | fail)
  refine wp_gen (fun W => Below w.heap.size w W ∧ Blk W w.heap.size 25 zeroA.vals.toArray) ⟨HB0.out, HK0.out⟩ ?_
  rintro W ⟨hW, k1⟩
  have HW := Lib.hid hW
  have K1 := Lib.hid (k1.below ((Below.refl _ _).alloc (Nat.le_refl _) (.cells act1.vals.toArray 25)) k1.lt)
  have K2 := Lib.hid (Blk.new W 25 act1.vals.toArray)
  have HWA := Lib.hid (hW.alloc hW.size (.cells act1.vals.toArray 25))
  have HGE' := Lib.hid hW.size
  have HNE' := Lib.hid (Nat.ne_of_lt k1.lt)
  clear hW k1 HB0 HK0
  go_upto_region 4 with (first
    | (refine wpList_store_new rfl 25 (.tmp 6) (.tmp 22) rfl W.heap.size _ _ act1.vals rfl rfl rfl rfl (by kernel_rfl) (act_one _) ?_)
    | fail)
  refine wp_gen (fun V => Below w.heap.size w V ∧ Blk V w.heap.size 25 zeroA.vals.toArray ∧ Blk V W.heap.size 25 act1.vals.toArray) ⟨HWA.out, K1.out, K2.out⟩ ?_
  rintro V ⟨hV, k1, k2⟩
  have f1 : V.frozen? ⟨W.heap.size, 1, none⟩ = false := k2.free 1
  have c1 : V.cell? ⟨W.heap.size, 1, none⟩ = some (.int .u64 0) := k2.cell 1
  have hg := grownBy_setCell V W.heap.size 1 (.int .u64 2)
  have HX : Hid (Below w.heap.size w (V.setCell ⟨W.heap.size, 1, none⟩ (.int .u64 2)) ∧ Blk (V.setCell ⟨W.heap.size, 1, none⟩ (.int .u64 2)) w.heap.size 25 zeroA.vals.toArray ∧ Blk (V.setCell ⟨W.heap.size, 1, none⟩ (.int .u64 2)) W.heap.size 25 a.vals.toArray) := Lib.hid ⟨below_grown hV hg HGE'.out, k1.grown hg HNE'.out, by rw [HAA.out]; exact k2.set_ (cs := act1.vals) 1 (.int .u64 2)⟩
  clear hV k1 k2 hg K1 K2 HWA
  go_upto_region 5 with fail
  refine wp_gen (fun V => Below w.heap.size w V ∧ Blk V w.heap.size 25 zeroA.vals.toArray ∧ Blk V W.heap.size 25 a.vals.toArray) HX.out ?_
  rintro V ⟨hV, k1, k2⟩
  have HV := Lib.hid hV
  have K1 := Lib.hid k1
  have RNG := Lib.hid k2.range
  clear hV k1 k2 HX f1 c1
  go_wp2_with (first
    | (refine wpList_load_mid rfl 25 (.tmp 6) rfl W.heap.size 0 rfl a.vals _ RNG.out Tryd.underlying25 rfl (by kernel_rfl) ?_)
    | (refine wpList_store_blk rfl 25 (.tmp 4) (.tmp 27) rfl w.heap.size 25 _ a.vals rfl rfl K1.out rfl (by kernel_rfl) (act_one a) ?_; intro W3 hz hg; have HZ3 := Lib.hid hz; have HG3 := Lib.hid hg; clear hz hg)
    | fail)
  refine bodyPost_ret (results_cell_row_tmp rfl _ _ w.heap.size 25 _ (0, 0) _ rfl HZ3.out.heap Tryd.underlying25 rfl rfl) rfl ?_
  exact ⟨rfl, below_grown HV.out HG3.out (Nat.le_refl _)⟩
end Go.Proofs.YtjeligbgcofaeaaDoor
