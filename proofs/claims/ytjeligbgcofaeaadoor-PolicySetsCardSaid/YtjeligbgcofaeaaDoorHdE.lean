/- Package head: With. -/
import Derived.Test.YtjeligbgcofaeaaDoorHdD
namespace Go.Proofs.YtjeligbgcofaeaaDoor
open Go.RowKit
set_option linter.unusedVariables false
set_option linter.unusedSimpArgs false

theorem results_cell_row_tmp {P : Program} {fn : Func} {p u : Tmp} {ty : TypeId} (h : fn.results = #[.cell p ty, .tmp u]) (tmps : Array Value) (w : World) (g : Nat) (t : TypeId) (cs : Array Value) (fr : Nat × Nat) (d : TypeDesc)
    (hp : tmps.getD p undef = .pointer (some ⟨g, 0, none⟩)) (hg : w.heap[g]? = some (.cells cs t fr))
    (hu : P.underlying ty = some d) (hd : (match d with | .struct _ | .array _ _ => true | _ => false) = true) (hi : (P.info? ty).map (·.size) = some cs.size) :
    (results fn tmps).run P w = .ok (.tuple #[.agg cs, tmps.getD u undef]) w := by
  rw [results_cell_tmp h, hp]
  simp [asAddr, run_loadVar_row w g t ty cs fr d hg hu hd hi]
def zeroH : Hdr := ⟨0, ⟨0, 0, 0, 0, 0, 0⟩, ⟨0, 0, 0, 0, 0, 0⟩, 0, 0, 0, 0, 0, 0⟩
def withH (h : Hdr) (k : Nat) (n : Int) : Hdr :=
  match k with
  | 0 => { h with port := n }
  | 1 => { h with src := ofMac n }
  | 2 => { h with dst := ofMac n }
  | 3 => { h with typ := n }
  | 4 => { h with sip := n }
  | 5 => { h with dip := n }
  | 6 => { h with proto := n }
  | 7 => { h with sp := n }
  | 8 => { h with dp := n }
  | _ => h
theorem vals_one (h : Hdr) : ∀ u ∈ h.vals, u.oneCell' = true := by
  intro u hu
  simp only [Hdr.vals, List.mem_cons, List.not_mem_nil, or_false] at hu
  rcases hu with rfl | rfl | rfl | rfl | rfl | rfl | rfl | rfl | rfl | rfl | rfl | rfl | rfl | rfl | rfl | rfl | rfl | rfl | rfl <;> rfl
theorem Blk.set6 {w : World} {g : Nat} {t : TypeId} {cs : List Value} (h : Blk w g t cs.toArray) (o : Nat) (a b c d e f : Value) : Blk ((((((w.setCell ⟨g, o, none⟩ a).setCell ⟨g, o + 1, none⟩ b).setCell ⟨g, o + 2, none⟩ c).setCell ⟨g, o + 3, none⟩ d).setCell ⟨g, o + 4, none⟩ e).setCell ⟨g, o + 5, none⟩ f) g t ((((((cs.set o a).set (o + 1) b).set (o + 2) c).set (o + 3) d).set (o + 4) e).set (o + 5) f).toArray :=
  (((((h.set_ o a).set_ (o + 1) b).set_ (o + 2) c).set_ (o + 3) d).set_ (o + 4) e).set_ (o + 5) f
theorem grown6 (w : World) (g o : Nat) (a b c d e f : Value) : w.grownBy ((((((w.setCell ⟨g, o, none⟩ a).setCell ⟨g, o + 1, none⟩ b).setCell ⟨g, o + 2, none⟩ c).setCell ⟨g, o + 3, none⟩ d).setCell ⟨g, o + 4, none⟩ e).setCell ⟨g, o + 5, none⟩ f) (some g) :=
  grownBy_trans (grownBy_trans (grownBy_trans (grownBy_trans (grownBy_trans (grownBy_setCell _ _ _ _) (grownBy_setCell _ _ _ _)) (grownBy_setCell _ _ _ _)) (grownBy_setCell _ _ _ _)) (grownBy_setCell _ _ _ _)) (grownBy_setCell _ _ _ _)
def WithB (w : World) (h r : Hdr) (W : World) : Prop := Below w.heap.size w W ∧ Blk W w.heap.size 31 h.vals.toArray ∧ Blk W (w.heap.size + 1) 31 r.vals.toArray
set_option maxRecDepth 100000 in
set_option maxHeartbeats 8000000 in
theorem hd_WithOk (h : Hdr) (k : Nat) (n : Int) (w : World) (hT : Tab w) (hf : h.Fits) (hk : k < 9) (h0 : 0 ≤ n) (h1 : n ≤ fullN k) :
    Calls Tryd.prog 28 #[.agg h.vals.toArray, .int .i64 (k : Int), .int .u64 n] w fun e w' => e = .returned (.tuple #[.agg (withH h k n).vals.toArray, .int .i64 0]) ∧ Below w.heap.size w w' := by
  have hb : WithB w h zeroH ((w.alloc (.cells h.vals.toArray 31)).alloc (.cells zeroH.vals.toArray 31)) := ⟨((Below.refl _ _).alloc (Nat.le_refl _) _).alloc (by simp) _, (Blk.new w _ _).below ((Below.refl _ _).alloc (Nat.le_refl _) _) (by simp), by
    have := Blk.new (w.alloc (.cells h.vals.toArray 31)) 31 zeroH.vals.toArray
    simpa using this⟩
  have HBB := Lib.hid hb
  have HC := Lib.hid (fun (f : Int) (hfk : f = k) W (hW : Below w.heap.size w W) => (show Calls Tryd.prog 27 #[.int .i64 f] W _ from hfk ▸ hd_Full k W (hT.below hW) hk))
  have hfb : fullN k ≤ 281474976710655 := by
    have hp : 2 ^ widthN k ≤ 2 ^ 48 := Nat.pow_le_pow_right (by omega) (widthN_bd hk).2
    have h48 : (2 : Nat) ^ 48 = 281474976710656 := rfl
    unfold fullN
    omega
  have HO := Lib.hid (fun W => hd_Of n W h0 (by omega))
  obtain ⟨m, hm⟩ : ∃ m, m = fullN k := ⟨_, rfl⟩
  rw [← hm] at HC h1 hfb
  have HM := Lib.hid hm
  have d1 : decide ((k : Int) < 0) = false := decide_eq_false (by omega)
  have d2 : decide ((k : Int) ≥ 9) = false := decide_eq_false (by omega)
  have d3 : decide (n > (m : Int)) = false := decide_eq_false (by omega)
  have hkc : k = 0 ∨ k = 1 ∨ k = 2 ∨ k = 3 ∨ k = 4 ∨ k = 5 ∨ k = 6 ∨ k = 7 ∨ k = 8 := by omega
  clear hT hb hm
  obtain ⟨r, hr⟩ : ∃ r, r = withH h k n := ⟨_, rfl⟩
  have HR := Lib.hid hr
  rw [← hr]
  clear hr
  go_enter Tryd.func28, Tryd.ntmps28
  go_upto_region 1 with fail
  refine wp_gen (fun W => WithB w h zeroH W) HBB.out ?_
  rintro W ⟨hW, hk1, hk2⟩
  have HW := Lib.hid hW
  have HK1 := Lib.hid hk1
  have HK2 := Lib.hid hk2
  have hV : Below W.heap.size W W := Below.refl _ _
  have HZ := Lib.hid (fun W2 (q : Below W.heap.size W W2) o u (e : (withH h k n).vals = h.vals.set o u) => (show WithB w (withH h k n) zeroH (W2.setCell ⟨w.heap.size, o, none⟩ u) from ⟨below_grown (below_step HW.out q) (grownBy_setCell _ _ _ _) (Nat.le_refl _), by rw [e]; exact (HK1.out.below q HK1.out.lt).set_ o u, (HK2.out.below q HK2.out.lt).grown (grownBy_setCell _ _ _ _) (by omega)⟩))
  have HZ6 := Lib.hid (fun W2 (q : Below W.heap.size W W2) o a b c d e f (hq : (withH h k n).vals = (((((h.vals.set o a).set (o + 1) b).set (o + 2) c).set (o + 3) d).set (o + 4) e).set (o + 5) f) => (show WithB w (withH h k n) zeroH ((((((W2.setCell ⟨w.heap.size, o, none⟩ a).setCell ⟨w.heap.size, o + 1, none⟩ b).setCell ⟨w.heap.size, o + 2, none⟩ c).setCell ⟨w.heap.size, o + 3, none⟩ d).setCell ⟨w.heap.size, o + 4, none⟩ e).setCell ⟨w.heap.size, o + 5, none⟩ f) from ⟨below_grown (below_step HW.out q) (grown6 _ _ _ _ _ _ _ _ _) (Nat.le_refl _), by rw [hq]; exact (HK1.out.below q HK1.out.lt).set6 o a b c d e f, (HK2.out.below q HK2.out.lt).grown (grown6 _ _ _ _ _ _ _ _ _) (by omega)⟩))
  have xf : ∀ w' o, Below W.heap.size W w' → w'.frozen? ⟨w.heap.size, o, none⟩ = false := fun w' o q => (hk1.below q hk1.lt).free o
  have tail : ∀ W2, WithB w (withH h k n) zeroH W2 → WithB w (withH h k n) zeroH W2 := fun _ h => h
  obtain ⟨port, ⟨s0, s1, s2, s3, s4, s5⟩, ⟨d0, d1', d2', d3', d4, d5⟩, typ, sip, dip, proto, sp, dp⟩ := h
  have xc : ∀ w' o, Below W.heap.size W w' → w'.cell? ⟨w.heap.size, o, none⟩ = (#[.int .i64 port, .int .u8 s0, .int .u8 s1, .int .u8 s2, .int .u8 s3, .int .u8 s4, .int .u8 s5, .int .u8 d0, .int .u8 d1', .int .u8 d2', .int .u8 d3', .int .u8 d4, .int .u8 d5, .int .i64 typ, .int .u32 sip, .int .u32 dip, .int .i64 proto, .int .i64 sp, .int .i64 dp] : Array Value)[o]? := fun w' o q => (hk1.below q hk1.lt).cell o
  clear hW hk1 hk2 tail
  rcases hkc with rfl | rfl | rfl | rfl | rfl | rfl | rfl | rfl | rfl
  · have hm : m = 255 := HM.out
    have hn' : n ≤ 255 := by omega
    clear hm
    go_upto_region 22 with (first
      | (go_at_call 27; (with_reducible refine (HC.out _ ?_ _ HW.out).mono ?_); rfl; rintro e u ⟨rfl, rfl⟩)
      | fail)
    refine wp_gen (fun W2 => WithB w (withH _ 0 n) zeroH W2) (HZ.out _ hV 0 _ rfl) ?_
    rintro W2 hW2
    rw [← HR.out] at hW2
    have HW2 := Lib.hid hW2
    have HRng := Lib.hid hW2.2.1.range
    clear hW2 xc xf hV HZ HZ6
    go_wp2_with (first
      | (refine wpList_load_mid rfl 31 (.tmp 3) rfl w.heap.size 0 rfl r.vals _ HRng.out Tryd.underlying31 rfl (by kernel_rfl) ?_)
      | (refine wpList_store_blk rfl 31 (.tmp 6) (.tmp 67) rfl (w.heap.size + 1) 31 _ r.vals rfl rfl HW2.out.2.2 rfl rfl (vals_one r) ?_; intro W3 hz hg; have HZ3 := Lib.hid hz; have HG3 := Lib.hid hg; clear hz hg)
      | fail)
    refine bodyPost_ret (results_cell_row_tmp rfl _ _ (w.heap.size + 1) 31 _ (0, 0) _ rfl HZ3.out.heap Tryd.underlying31 rfl rfl) rfl ?_
    exact ⟨rfl, below_grown HW2.out.1 HG3.out (by omega)⟩
  · have hm : m = 281474976710655 := HM.out
    have hn' : n ≤ 281474976710655 := by omega
    clear hm
    go_upto_region 22 with (first
      | (go_at_call 27; (with_reducible refine (HC.out _ ?_ _ HW.out).mono ?_); rfl; rintro e u ⟨rfl, rfl⟩)
      | (go_at_call 48; (with_reducible refine (HO.out _).mono ?_); rintro e u ⟨rfl, hb⟩; replace hV := below_step hV hb; clear hb; unfold ofC)
      | fail)
    refine wp_gen (fun W2 => WithB w (withH _ 1 n) zeroH W2) (HZ6.out _ hV 1 _ _ _ _ _ _ rfl) ?_
    rintro W2 hW2
    rw [← HR.out] at hW2
    have HW2 := Lib.hid hW2
    have HRng := Lib.hid hW2.2.1.range
    clear hW2 xc xf hV HZ HZ6
    go_wp2_with (first
      | (refine wpList_load_mid rfl 31 (.tmp 3) rfl w.heap.size 0 rfl r.vals _ HRng.out Tryd.underlying31 rfl (by kernel_rfl) ?_)
      | (refine wpList_store_blk rfl 31 (.tmp 6) (.tmp 67) rfl (w.heap.size + 1) 31 _ r.vals rfl rfl HW2.out.2.2 rfl rfl (vals_one r) ?_; intro W3 hz hg; have HZ3 := Lib.hid hz; have HG3 := Lib.hid hg; clear hz hg)
      | fail)
    refine bodyPost_ret (results_cell_row_tmp rfl _ _ (w.heap.size + 1) 31 _ (0, 0) _ rfl HZ3.out.heap Tryd.underlying31 rfl rfl) rfl ?_
    exact ⟨rfl, below_grown HW2.out.1 HG3.out (by omega)⟩
  · have hm : m = 281474976710655 := HM.out
    have hn' : n ≤ 281474976710655 := by omega
    clear hm
    go_upto_region 22 with (first
      | (go_at_call 27; (with_reducible refine (HC.out _ ?_ _ HW.out).mono ?_); rfl; rintro e u ⟨rfl, rfl⟩)
      | (go_at_call 48; (with_reducible refine (HO.out _).mono ?_); rintro e u ⟨rfl, hb⟩; replace hV := below_step hV hb; clear hb; unfold ofC)
      | fail)
    refine wp_gen (fun W2 => WithB w (withH _ 2 n) zeroH W2) (HZ6.out _ hV 7 _ _ _ _ _ _ rfl) ?_
    rintro W2 hW2
    rw [← HR.out] at hW2
    have HW2 := Lib.hid hW2
    have HRng := Lib.hid hW2.2.1.range
    clear hW2 xc xf hV HZ HZ6
    go_wp2_with (first
      | (refine wpList_load_mid rfl 31 (.tmp 3) rfl w.heap.size 0 rfl r.vals _ HRng.out Tryd.underlying31 rfl (by kernel_rfl) ?_)
      | (refine wpList_store_blk rfl 31 (.tmp 6) (.tmp 67) rfl (w.heap.size + 1) 31 _ r.vals rfl rfl HW2.out.2.2 rfl rfl (vals_one r) ?_; intro W3 hz hg; have HZ3 := Lib.hid hz; have HG3 := Lib.hid hg; clear hz hg)
      | fail)
    refine bodyPost_ret (results_cell_row_tmp rfl _ _ (w.heap.size + 1) 31 _ (0, 0) _ rfl HZ3.out.heap Tryd.underlying31 rfl rfl) rfl ?_
    exact ⟨rfl, below_grown HW2.out.1 HG3.out (by omega)⟩
  · have hm : m = 65535 := HM.out
    have hn' : n ≤ 65535 := by omega
    clear hm
    go_upto_region 22 with (first
      | (go_at_call 27; (with_reducible refine (HC.out _ ?_ _ HW.out).mono ?_); rfl; rintro e u ⟨rfl, rfl⟩)
      | fail)
    refine wp_gen (fun W2 => WithB w (withH _ 3 n) zeroH W2) (HZ.out _ hV 13 _ rfl) ?_
    rintro W2 hW2
    rw [← HR.out] at hW2
    have HW2 := Lib.hid hW2
    have HRng := Lib.hid hW2.2.1.range
    clear hW2 xc xf hV HZ HZ6
    go_wp2_with (first
      | (refine wpList_load_mid rfl 31 (.tmp 3) rfl w.heap.size 0 rfl r.vals _ HRng.out Tryd.underlying31 rfl (by kernel_rfl) ?_)
      | (refine wpList_store_blk rfl 31 (.tmp 6) (.tmp 67) rfl (w.heap.size + 1) 31 _ r.vals rfl rfl HW2.out.2.2 rfl rfl (vals_one r) ?_; intro W3 hz hg; have HZ3 := Lib.hid hz; have HG3 := Lib.hid hg; clear hz hg)
      | fail)
    refine bodyPost_ret (results_cell_row_tmp rfl _ _ (w.heap.size + 1) 31 _ (0, 0) _ rfl HZ3.out.heap Tryd.underlying31 rfl rfl) rfl ?_
    exact ⟨rfl, below_grown HW2.out.1 HG3.out (by omega)⟩
  · have hm : m = 4294967295 := HM.out
    have hn' : n ≤ 4294967295 := by omega
    clear hm
    go_upto_region 22 with (first
      | (go_at_call 27; (with_reducible refine (HC.out _ ?_ _ HW.out).mono ?_); rfl; rintro e u ⟨rfl, rfl⟩)
      | fail)
    refine wp_gen (fun W2 => WithB w (withH _ 4 n) zeroH W2) (HZ.out _ hV 14 _ rfl) ?_
    rintro W2 hW2
    rw [← HR.out] at hW2
    have HW2 := Lib.hid hW2
    have HRng := Lib.hid hW2.2.1.range
    clear hW2 xc xf hV HZ HZ6
    go_wp2_with (first
      | (refine wpList_load_mid rfl 31 (.tmp 3) rfl w.heap.size 0 rfl r.vals _ HRng.out Tryd.underlying31 rfl (by kernel_rfl) ?_)
      | (refine wpList_store_blk rfl 31 (.tmp 6) (.tmp 67) rfl (w.heap.size + 1) 31 _ r.vals rfl rfl HW2.out.2.2 rfl rfl (vals_one r) ?_; intro W3 hz hg; have HZ3 := Lib.hid hz; have HG3 := Lib.hid hg; clear hz hg)
      | fail)
    refine bodyPost_ret (results_cell_row_tmp rfl _ _ (w.heap.size + 1) 31 _ (0, 0) _ rfl HZ3.out.heap Tryd.underlying31 rfl rfl) rfl ?_
    exact ⟨rfl, below_grown HW2.out.1 HG3.out (by omega)⟩
  · have hm : m = 4294967295 := HM.out
    have hn' : n ≤ 4294967295 := by omega
    clear hm
    go_upto_region 22 with (first
      | (go_at_call 27; (with_reducible refine (HC.out _ ?_ _ HW.out).mono ?_); rfl; rintro e u ⟨rfl, rfl⟩)
      | fail)
    refine wp_gen (fun W2 => WithB w (withH _ 5 n) zeroH W2) (HZ.out _ hV 15 _ rfl) ?_
    rintro W2 hW2
    rw [← HR.out] at hW2
    have HW2 := Lib.hid hW2
    have HRng := Lib.hid hW2.2.1.range
    clear hW2 xc xf hV HZ HZ6
    go_wp2_with (first
      | (refine wpList_load_mid rfl 31 (.tmp 3) rfl w.heap.size 0 rfl r.vals _ HRng.out Tryd.underlying31 rfl (by kernel_rfl) ?_)
      | (refine wpList_store_blk rfl 31 (.tmp 6) (.tmp 67) rfl (w.heap.size + 1) 31 _ r.vals rfl rfl HW2.out.2.2 rfl rfl (vals_one r) ?_; intro W3 hz hg; have HZ3 := Lib.hid hz; have HG3 := Lib.hid hg; clear hz hg)
      | fail)
    refine bodyPost_ret (results_cell_row_tmp rfl _ _ (w.heap.size + 1) 31 _ (0, 0) _ rfl HZ3.out.heap Tryd.underlying31 rfl rfl) rfl ?_
    exact ⟨rfl, below_grown HW2.out.1 HG3.out (by omega)⟩
  · have hm : m = 255 := HM.out
    have hn' : n ≤ 255 := by omega
    clear hm
    go_upto_region 22 with (first
      | (go_at_call 27; (with_reducible refine (HC.out _ ?_ _ HW.out).mono ?_); rfl; rintro e u ⟨rfl, rfl⟩)
      | fail)
    refine wp_gen (fun W2 => WithB w (withH _ 6 n) zeroH W2) (HZ.out _ hV 16 _ rfl) ?_
    rintro W2 hW2
    rw [← HR.out] at hW2
    have HW2 := Lib.hid hW2
    have HRng := Lib.hid hW2.2.1.range
    clear hW2 xc xf hV HZ HZ6
    go_wp2_with (first
      | (refine wpList_load_mid rfl 31 (.tmp 3) rfl w.heap.size 0 rfl r.vals _ HRng.out Tryd.underlying31 rfl (by kernel_rfl) ?_)
      | (refine wpList_store_blk rfl 31 (.tmp 6) (.tmp 67) rfl (w.heap.size + 1) 31 _ r.vals rfl rfl HW2.out.2.2 rfl rfl (vals_one r) ?_; intro W3 hz hg; have HZ3 := Lib.hid hz; have HG3 := Lib.hid hg; clear hz hg)
      | fail)
    refine bodyPost_ret (results_cell_row_tmp rfl _ _ (w.heap.size + 1) 31 _ (0, 0) _ rfl HZ3.out.heap Tryd.underlying31 rfl rfl) rfl ?_
    exact ⟨rfl, below_grown HW2.out.1 HG3.out (by omega)⟩
  · have hm : m = 65535 := HM.out
    have hn' : n ≤ 65535 := by omega
    clear hm
    go_upto_region 22 with (first
      | (go_at_call 27; (with_reducible refine (HC.out _ ?_ _ HW.out).mono ?_); rfl; rintro e u ⟨rfl, rfl⟩)
      | fail)
    refine wp_gen (fun W2 => WithB w (withH _ 7 n) zeroH W2) (HZ.out _ hV 17 _ rfl) ?_
    rintro W2 hW2
    rw [← HR.out] at hW2
    have HW2 := Lib.hid hW2
    have HRng := Lib.hid hW2.2.1.range
    clear hW2 xc xf hV HZ HZ6
    go_wp2_with (first
      | (refine wpList_load_mid rfl 31 (.tmp 3) rfl w.heap.size 0 rfl r.vals _ HRng.out Tryd.underlying31 rfl (by kernel_rfl) ?_)
      | (refine wpList_store_blk rfl 31 (.tmp 6) (.tmp 67) rfl (w.heap.size + 1) 31 _ r.vals rfl rfl HW2.out.2.2 rfl rfl (vals_one r) ?_; intro W3 hz hg; have HZ3 := Lib.hid hz; have HG3 := Lib.hid hg; clear hz hg)
      | fail)
    refine bodyPost_ret (results_cell_row_tmp rfl _ _ (w.heap.size + 1) 31 _ (0, 0) _ rfl HZ3.out.heap Tryd.underlying31 rfl rfl) rfl ?_
    exact ⟨rfl, below_grown HW2.out.1 HG3.out (by omega)⟩
  · have hm : m = 65535 := HM.out
    have hn' : n ≤ 65535 := by omega
    clear hm
    go_upto_region 22 with (first
      | (go_at_call 27; (with_reducible refine (HC.out _ ?_ _ HW.out).mono ?_); rfl; rintro e u ⟨rfl, rfl⟩)
      | fail)
    refine wp_gen (fun W2 => WithB w (withH _ 8 n) zeroH W2) (HZ.out _ hV 18 _ rfl) ?_
    rintro W2 hW2
    rw [← HR.out] at hW2
    have HW2 := Lib.hid hW2
    have HRng := Lib.hid hW2.2.1.range
    clear hW2 xc xf hV HZ HZ6
    go_wp2_with (first
      | (refine wpList_load_mid rfl 31 (.tmp 3) rfl w.heap.size 0 rfl r.vals _ HRng.out Tryd.underlying31 rfl (by kernel_rfl) ?_)
      | (refine wpList_store_blk rfl 31 (.tmp 6) (.tmp 67) rfl (w.heap.size + 1) 31 _ r.vals rfl rfl HW2.out.2.2 rfl rfl (vals_one r) ?_; intro W3 hz hg; have HZ3 := Lib.hid hz; have HG3 := Lib.hid hg; clear hz hg)
      | fail)
    refine bodyPost_ret (results_cell_row_tmp rfl _ _ (w.heap.size + 1) 31 _ (0, 0) _ rfl HZ3.out.heap Tryd.underlying31 rfl rfl) rfl ?_
    exact ⟨rfl, below_grown HW2.out.1 HG3.out (by omega)⟩
end Go.Proofs.YtjeligbgcofaeaaDoor
