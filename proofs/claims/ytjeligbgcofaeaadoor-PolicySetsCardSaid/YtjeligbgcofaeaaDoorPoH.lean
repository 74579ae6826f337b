/- policy.Node: Check, CheckPred, Run; Fwd; the law's par, seq, filter. -/
import Derived.Test.YtjeligbgcofaeaaDoorPoC
import Derived.Test.YtjeligbgcofaeaaDoorPoG
import Derived.Test.YtjeligbgcofaeaaDoorPoI
namespace Go.Proofs.YtjeligbgcofaeaaDoor
open Go.RowKit
set_option linter.unusedVariables false
set_option linter.unusedSimpArgs false

set_option maxRecDepth 100000 in
set_option maxHeartbeats 1000000 in
theorem node_Check (n : Nat) (x : Nd) (cs : List Value) (w : World) (F : Nat → Prop) (hT : Tab w) (hF : InF F w) (hn : nodeR n w F cs x) :
    Calls Tryd.prog 30 #[.agg cs.toArray] w fun e w' => e = .returned (.int .i64 (walkN x false 64 16).2) ∧ Below w.heap.size w w' := by
  have hb := (Below.refl w.heap.size w).alloc (Nat.le_refl _) (.cells cs.toArray 45)
  have HB := Lib.hid hb
  have RN := Lib.hid (Blk.new w 45 cs.toArray).range
  have HL := Lib.hid ((nodeR_ok n).len hn)
  have C := Lib.hid (node_walk n x cs _ F false 64 16 (hT.below hb) (fun b hx => Nat.lt_of_lt_of_le (hF b hx) hb.size) (nodeR_below hn hF hb) (by omega) (by omega) (by omega) (by omega))
  obtain ⟨p, hp⟩ : ∃ p, p = walkN x false 64 16 := ⟨_, rfl⟩
  rw [← hp] at C
  rw [← hp]
  clear hb hp hT hF hn
  go_enter Tryd.func30, Tryd.ntmps30
  go_wp2_with (first
    | (refine wpList_load_mid rfl 45 (.tmp 1) rfl w.heap.size 0 rfl cs _ RN.out Tryd.underlying45 rfl (by rw [HL.out]; kernel_rfl) ?_)
    | (go_at_call 49; (with_reducible refine C.out.mono ?_); rintro e u ⟨rfl, hb⟩; have HU := Lib.hid (below_step HB.out hb); clear hb)
    | fail)
  go_ret
  exact ⟨rfl, HU.out⟩
set_option maxRecDepth 100000 in
set_option maxHeartbeats 1000000 in
theorem node_CheckPred (n : Nat) (x : Nd) (cs : List Value) (w : World) (F : Nat → Prop) (hT : Tab w) (hF : InF F w) (hn : nodeR n w F cs x) :
    Calls Tryd.prog 31 #[.agg cs.toArray] w fun e w' => e = .returned (.int .i64 (walkN x true 64 16).2) ∧ Below w.heap.size w w' := by
  have hb := (Below.refl w.heap.size w).alloc (Nat.le_refl _) (.cells cs.toArray 45)
  have HB := Lib.hid hb
  have RN := Lib.hid (Blk.new w 45 cs.toArray).range
  have HL := Lib.hid ((nodeR_ok n).len hn)
  have C := Lib.hid (node_walk n x cs _ F true 64 16 (hT.below hb) (fun b hx => Nat.lt_of_lt_of_le (hF b hx) hb.size) (nodeR_below hn hF hb) (by omega) (by omega) (by omega) (by omega))
  obtain ⟨p, hp⟩ : ∃ p, p = walkN x true 64 16 := ⟨_, rfl⟩
  rw [← hp] at C
  rw [← hp]
  clear hb hp hT hF hn
  go_enter Tryd.func31, Tryd.ntmps31
  go_wp2_with (first
    | (refine wpList_load_mid rfl 45 (.tmp 1) rfl w.heap.size 0 rfl cs _ RN.out Tryd.underlying45 rfl (by rw [HL.out]; kernel_rfl) ?_)
    | (go_at_call 49; (with_reducible refine C.out.mono ?_); rintro e u ⟨rfl, hb⟩; have HU := Lib.hid (below_step HB.out hb); clear hb)
    | fail)
  go_ret
  exact ⟨rfl, HU.out⟩
theorem ret_Run {v v' : Value} {a b : Int} (h1 : v = v') (h2 : a = b) : Ending.returned (.tuple #[v, .int .i64 a]) = Ending.returned (.tuple #[v', .int .i64 b]) := by
  subst h1 h2
  rfl
set_option maxRecDepth 100000 in
set_option maxHeartbeats 2000000 in
theorem node_Run_bad (n : Nat) (x : Nd) (cs : List Value) (w : World) (F : Nat → Prop) (h : Hdr) (hT : Tab w) (hF : InF F w) (hn : nodeR n w F cs x) (he : (walkN x false 64 16).2 ≠ 0) :
    Calls Tryd.prog 18 #[.agg cs.toArray, .agg h.vals.toArray] w fun e w' => e = .returned (.tuple #[.slice none 0 0, .int .i64 (walkN x false 64 16).2]) ∧ Below w.heap.size w w' := by
  have HX : Hid (Below w.heap.size w ((w.alloc (.cells cs.toArray 45)).alloc (.cells h.vals.toArray 31)) ∧ ((w.alloc (.cells cs.toArray 45)).alloc (.cells h.vals.toArray 31)).rangeAt w.heap.size 0 cs ∧ Blk ((w.alloc (.cells cs.toArray 45)).alloc (.cells h.vals.toArray 31)) w.heap.size 45 cs.toArray ∧ Blk ((w.alloc (.cells cs.toArray 45)).alloc (.cells h.vals.toArray 31)) (w.heap.size + 1) 31 h.vals.toArray) := by
    have b1 := Blk.new w 45 cs.toArray
    have l1 := (Below.refl w.heap.size w).alloc (Nat.le_refl _) (.cells cs.toArray 45)
    generalize hW1 : w.alloc (.cells cs.toArray 45) = W1 at b1 l1 ⊢
    have s1 : W1.heap.size = w.heap.size + 1 := by rw [← hW1]; simp
    have b2 := Blk.new W1 31 h.vals.toArray
    have l2 := (Below.refl W1.heap.size W1).alloc (Nat.le_refl _) (.cells h.vals.toArray 31)
    rw [s1] at b2
    have b3 := b1.below l2 (by omega)
    exact Lib.hid ⟨below_step l1 l2, b3.range, b3, b2⟩
  have HL := Lib.hid ((nodeR_ok n).len hn)
  have CC := Lib.hid (fun W (q : Below w.heap.size w W) => node_Check n x cs W F (hT.below q) (fun b hx => Nat.lt_of_lt_of_le (hF b hx) q.size) (nodeR_below hn hF q))
  obtain ⟨p, hp⟩ : ∃ p, p = (walkN x false 64 16).2 := ⟨_, rfl⟩
  rw [← hp] at CC he
  rw [← hp]
  have dp : (p != 0) = true := by simpa using he
  clear hp hT hF hn
  go_enter Tryd.func18, Tryd.ntmps18
  go_upto_region 1 with fail
  refine wp_gen (fun W => Below w.heap.size w W ∧ W.rangeAt w.heap.size 0 cs ∧ Blk W w.heap.size 45 cs.toArray ∧ Blk W (w.heap.size + 1) 31 h.vals.toArray) HX.out ?_
  rintro W ⟨hW, _, hk1, hk2⟩
  have HW := Lib.hid hW
  have RN := Lib.hid (fun w' (q : Below W.heap.size W w') => (hk1.below q hk1.lt).range)
  have RH := Lib.hid (fun w' (q : Below W.heap.size W w') => (hk2.below q hk2.lt).range)
  have hB : Below W.heap.size W W := Below.refl _ _
  clear hW hk1 hk2 HX
  go_wp2_with (first
    | (refine wpList_load_mid rfl 45 (.tmp 2) rfl w.heap.size 0 rfl cs _ (RN.out _ hB) Tryd.underlying45 rfl (by rw [HL.out]; kernel_rfl) ?_)
    | (refine wpList_load_mid rfl 31 (.tmp 3) rfl (w.heap.size + 1) 0 rfl h.vals _ (RH.out _ hB) Tryd.underlying31 rfl (by kernel_rfl) ?_)
    | (go_at_call 30; (with_reducible refine (CC.out _ (below_step HW.out hB)).mono ?_); rintro e u ⟨rfl, hb⟩; replace hB := below_step hB hb; clear hb)
    | fail)
  go_ret2
  exact ⟨rfl, below_step HW.out hB⟩
set_option maxRecDepth 100000 in
set_option maxHeartbeats 2000000 in
theorem node_Run_arg (n : Nat) (x : Nd) (cs : List Value) (w : World) (F : Nat → Prop) (h : Hdr) (hT : Tab w) (hF : InF F w) (hn : nodeR n w F cs x) (he : (walkN x false 64 16).2 = 0) (hf : h.Fits) (ho : okH h = false) :
    Calls Tryd.prog 18 #[.agg cs.toArray, .agg h.vals.toArray] w fun e w' => e = .returned (.tuple #[.slice none 0 0, .int .i64 1]) ∧ Below w.heap.size w w' := by
  have HX : Hid (Below w.heap.size w ((w.alloc (.cells cs.toArray 45)).alloc (.cells h.vals.toArray 31)) ∧ ((w.alloc (.cells cs.toArray 45)).alloc (.cells h.vals.toArray 31)).rangeAt w.heap.size 0 cs ∧ Blk ((w.alloc (.cells cs.toArray 45)).alloc (.cells h.vals.toArray 31)) w.heap.size 45 cs.toArray ∧ Blk ((w.alloc (.cells cs.toArray 45)).alloc (.cells h.vals.toArray 31)) (w.heap.size + 1) 31 h.vals.toArray) := by
    have b1 := Blk.new w 45 cs.toArray
    have l1 := (Below.refl w.heap.size w).alloc (Nat.le_refl _) (.cells cs.toArray 45)
    generalize hW1 : w.alloc (.cells cs.toArray 45) = W1 at b1 l1 ⊢
    have s1 : W1.heap.size = w.heap.size + 1 := by rw [← hW1]; simp
    have b2 := Blk.new W1 31 h.vals.toArray
    have l2 := (Below.refl W1.heap.size W1).alloc (Nat.le_refl _) (.cells h.vals.toArray 31)
    rw [s1] at b2
    have b3 := b1.below l2 (by omega)
    exact Lib.hid ⟨below_step l1 l2, b3.range, b3, b2⟩
  have HL := Lib.hid ((nodeR_ok n).len hn)
  have CC := Lib.hid (fun W (q : Below w.heap.size w W) => node_Check n x cs W F (hT.below q) (fun b hx => Nat.lt_of_lt_of_le (hF b hx) q.size) (nodeR_below hn hF q))
  have CH := Lib.hid (fun W (q : Below w.heap.size w W) => hd_Check h W (hT.below q) hf)
  rw [chkE_no ho] at CH
  rw [he] at CC
  clear he hT hF hn hf ho
  go_enter Tryd.func18, Tryd.ntmps18
  go_upto_region 1 with fail
  refine wp_gen (fun W => Below w.heap.size w W ∧ W.rangeAt w.heap.size 0 cs ∧ Blk W w.heap.size 45 cs.toArray ∧ Blk W (w.heap.size + 1) 31 h.vals.toArray) HX.out ?_
  rintro W ⟨hW, _, hk1, hk2⟩
  have HW := Lib.hid hW
  have RN := Lib.hid (fun w' (q : Below W.heap.size W w') => (hk1.below q hk1.lt).range)
  have RH := Lib.hid (fun w' (q : Below W.heap.size W w') => (hk2.below q hk2.lt).range)
  have hB : Below W.heap.size W W := Below.refl _ _
  clear hW hk1 hk2 HX
  go_wp2_with (first
    | (refine wpList_load_mid rfl 45 (.tmp 2) rfl w.heap.size 0 rfl cs _ (RN.out _ hB) Tryd.underlying45 rfl (by rw [HL.out]; kernel_rfl) ?_)
    | (refine wpList_load_mid rfl 31 (.tmp 3) rfl (w.heap.size + 1) 0 rfl h.vals _ (RH.out _ hB) Tryd.underlying31 rfl (by kernel_rfl) ?_)
    | (go_at_call 30; (with_reducible refine (CC.out _ (below_step HW.out hB)).mono ?_); rintro e u ⟨rfl, hb⟩; replace hB := below_step hB hb; clear hb)
    | (go_at_call 21; (with_reducible refine (CH.out _ (below_step HW.out hB)).mono ?_); rintro e u ⟨rfl, hb⟩; replace hB := below_step hB hb; clear hb)
    | fail)
  go_ret2
  exact ⟨rfl, below_step HW.out hB⟩
def errR (r : List OHdr × Bool) : Int := if r.2 then 0 else 34
def outR (r : List OHdr × Bool) : List OHdr := if r.2 then r.1 else []
set_option maxRecDepth 100000 in
set_option maxHeartbeats 2000000 in
theorem node_Run_ok (n : Nat) (x : Nd) (cs : List Value) (w : World) (F : Nat → Prop) (h : OHdr) (hT : Tab w) (hF : InF F w) (hn : nodeR n w F cs x) (he : (walkN x false 64 16).2 = 0) :
    Calls Tryd.prog 18 #[.agg cs.toArray, .agg h.1.vals.toArray] w fun e w' => ∃ v, e = .returned (.tuple #[v, .int .i64 (errR (runN x h))]) ∧ Hs w' v (outR (runN x h)) ∧ Below w.heap.size w w' := by
  have HX : Hid (Below w.heap.size w ((w.alloc (.cells cs.toArray 45)).alloc (.cells h.1.vals.toArray 31)) ∧ ((w.alloc (.cells cs.toArray 45)).alloc (.cells h.1.vals.toArray 31)).rangeAt w.heap.size 0 cs ∧ Blk ((w.alloc (.cells cs.toArray 45)).alloc (.cells h.1.vals.toArray 31)) w.heap.size 45 cs.toArray ∧ Blk ((w.alloc (.cells cs.toArray 45)).alloc (.cells h.1.vals.toArray 31)) (w.heap.size + 1) 31 h.1.vals.toArray) := by
    have b1 := Blk.new w 45 cs.toArray
    have l1 := (Below.refl w.heap.size w).alloc (Nat.le_refl _) (.cells cs.toArray 45)
    generalize hW1 : w.alloc (.cells cs.toArray 45) = W1 at b1 l1 ⊢
    have s1 : W1.heap.size = w.heap.size + 1 := by rw [← hW1]; simp
    have b2 := Blk.new W1 31 h.1.vals.toArray
    have l2 := (Below.refl W1.heap.size W1).alloc (Nat.le_refl _) (.cells h.1.vals.toArray 31)
    rw [s1] at b2
    have b3 := b1.below l2 (by omega)
    exact Lib.hid ⟨below_step l1 l2, b3.range, b3, b2⟩
  have HL := Lib.hid ((nodeR_ok n).len hn)
  have CC := Lib.hid (fun W (q : Below w.heap.size w W) => node_Check n x cs W F (hT.below q) (fun b hx => Nat.lt_of_lt_of_le (hF b hx) q.size) (nodeR_below hn hF q))
  have CH := Lib.hid (fun W (q : Below w.heap.size w W) => hd_Check h.1 W (hT.below q) h.2.fits)
  rw [chkE_yes h.2.ok] at CH
  rw [he] at CC
  have CR := Lib.hid (fun W (q : Below w.heap.size w W) => node_run n x cs W F h (hT.below q) (fun b hx => Nat.lt_of_lt_of_le (hF b hx) q.size) (nodeR_below hn hF q) (goodR_walk x _ _ _ he))
  obtain ⟨r, hr⟩ : ∃ r, r = runN x h := ⟨_, rfl⟩
  rw [← hr] at CR
  rw [← hr]
  clear he hT hF hn hr
  obtain ⟨rs, ok⟩ := r
  simp only at CR
  go_enter Tryd.func18, Tryd.ntmps18
  go_upto_region 1 with fail
  refine wp_gen (fun W => Below w.heap.size w W ∧ W.rangeAt w.heap.size 0 cs ∧ Blk W w.heap.size 45 cs.toArray ∧ Blk W (w.heap.size + 1) 31 h.1.vals.toArray) HX.out ?_
  rintro W ⟨hW, _, hk1, hk2⟩
  have HW := Lib.hid hW
  have RN := Lib.hid (fun w' (q : Below W.heap.size W w') => (hk1.below q hk1.lt).range)
  have RH := Lib.hid (fun w' (q : Below W.heap.size W w') => (hk2.below q hk2.lt).range)
  have hB : Below W.heap.size W W := Below.refl _ _
  clear hW hk1 hk2 HX
  go_upto_region 8 with (first
    | (refine wpList_load_mid rfl 45 (.tmp 2) rfl w.heap.size 0 rfl cs _ (RN.out _ hB) Tryd.underlying45 rfl (by rw [HL.out]; kernel_rfl) ?_)
    | (refine wpList_load_mid rfl 31 (.tmp 3) rfl (w.heap.size + 1) 0 rfl h.1.vals _ (RH.out _ hB) Tryd.underlying31 rfl (by kernel_rfl) ?_)
    | (go_at_call 30; (with_reducible refine (CC.out _ (below_step HW.out hB)).mono ?_); rintro e u ⟨rfl, hb⟩; replace hB := below_step hB hb; clear hb)
    | (go_at_call 21; (with_reducible refine (CH.out _ (below_step HW.out hB)).mono ?_); rintro e u ⟨rfl, hb⟩; replace hB := below_step hB hb; clear hb)
    | (go_at_call 43; (with_reducible refine (CR.out _ (below_step HW.out hB)).mono ?_); rintro e u ⟨vr, rfl, hsr, hb⟩; replace hB := below_step hB hb; have HSR := Lib.hid hsr; clear hb hsr)
    | fail)
  cases ok
  · go_wp2_with fail
    go_ret2
    exact ⟨_, rfl, Hs.nil _, below_step HW.out hB⟩
  · go_wp2_with fail
    go_ret2
    exact ⟨_, rfl, HSR.out, below_step HW.out hB⟩
theorem and_255 (p : Int) : bits .and .i64 p 255 = p % 256 := by
  show IntKind.i64.wrap ((BitVec.ofInt 64 p &&& BitVec.ofInt 64 255).toNat : Int) = _
  have e2 : (BitVec.ofInt 64 255).toNat = 2 ^ 8 - 1 := rfl
  rw [BitVec.toNat_and, e2, Nat.and_two_pow_sub_one_eq_mod, BitVec.toNat_ofInt, IntKind.wrap_i64]
  omega
set_option maxRecDepth 100000 in
set_option maxHeartbeats 1000000 in
theorem pol_Fwd (p : Int) (w : World) :
    Calls Tryd.prog 29 #[.int .i64 p] w fun e w' => e = .returned (.agg #[.int .i64 14, .int .i64 0, .int .u64 (p % 256), .int .u64 0, .slice none 0 0]) ∧ Below w.heap.size w w' := by
  have HK := Lib.hid (Blk.new w 45 #[.int .i64 0, .int .i64 0, .int .u64 0, .int .u64 0, .slice none 0 0])
  have HB := Lib.hid ((Below.refl w.heap.size w).alloc (Nat.le_refl _) (.cells #[.int .i64 0, .int .i64 0, .int .u64 0, .int .u64 0, .slice none 0 0] 45))
  have ha := and_255 p
  have hw : IntKind.u64.wrap (p % 256) = p % 256 := by rw [IntKind.wrap_u64]; omega
  go_enter Tryd.func29, Tryd.ntmps29
  go_wp2_with (first
    | (refine wpList_store_blk rfl 45 (.tmp 2) (.tmp 6) rfl w.heap.size 45 _ [.int .i64 14, .int .i64 0, .int .u64 (p % 256), .int .u64 0, .slice none 0 0] rfl rfl HK.out rfl (by kernel_rfl) (fun u hu => by simp at hu; rcases hu with rfl | rfl | rfl | rfl | rfl <;> rfl) ?_; intro W3 hz hg; have HZ3 := Lib.hid hz; have HG3 := Lib.hid hg; clear hz hg)
    | fail)
  refine bodyPost_ret (results_cell_row rfl _ _ w.heap.size 45 _ (0, 0) _ rfl HZ3.out.heap Tryd.underlying45 rfl rfl) rfl ?_
  exact ⟨rfl, below_grown HB.out HG3.out (Nat.le_refl _)⟩
set_option maxRecDepth 100000 in
set_option maxHeartbeats 1000000 in
theorem law_par (w : World) (A : Option Addr) (n c : Nat) :
    Calls Tryd.prog 25 #[.slice A n c] w fun e w' => e = .returned (.agg #[.int .i64 15, .int .i64 0, .int .u64 0, .int .u64 0, .slice A n c]) ∧ Below w.heap.size w w' := by
  have HK := Lib.hid (Blk.new w 45 #[.int .i64 0, .int .i64 0, .int .u64 0, .int .u64 0, .slice none 0 0])
  have HB := Lib.hid ((Below.refl w.heap.size w).alloc (Nat.le_refl _) (.cells #[.int .i64 0, .int .i64 0, .int .u64 0, .int .u64 0, .slice none 0 0] 45))
  go_enter Tryd.func25, Tryd.ntmps25
  go_wp2_with (first
    | (refine wpList_store_blk rfl 45 (.tmp 2) (.tmp 4) rfl w.heap.size 45 _ [.int .i64 15, .int .i64 0, .int .u64 0, .int .u64 0, .slice A n c] rfl rfl HK.out rfl (by kernel_rfl) (fun u hu => by simp at hu; rcases hu with rfl | rfl | rfl | rfl <;> rfl) ?_; intro W3 hz hg; have HZ3 := Lib.hid hz; have HG3 := Lib.hid hg; clear hz hg)
    | fail)
  refine bodyPost_ret (results_cell_row rfl _ _ w.heap.size 45 _ (0, 0) _ rfl HZ3.out.heap Tryd.underlying45 rfl rfl) rfl ?_
  exact ⟨rfl, below_grown HB.out HG3.out (Nat.le_refl _)⟩
set_option maxRecDepth 100000 in
set_option maxHeartbeats 1000000 in
theorem law_seq (w : World) (A : Option Addr) (n c : Nat) :
    Calls Tryd.prog 26 #[.slice A n c] w fun e w' => e = .returned (.agg #[.int .i64 16, .int .i64 0, .int .u64 0, .int .u64 0, .slice A n c]) ∧ Below w.heap.size w w' := by
  have HK := Lib.hid (Blk.new w 45 #[.int .i64 0, .int .i64 0, .int .u64 0, .int .u64 0, .slice none 0 0])
  have HB := Lib.hid ((Below.refl w.heap.size w).alloc (Nat.le_refl _) (.cells #[.int .i64 0, .int .i64 0, .int .u64 0, .int .u64 0, .slice none 0 0] 45))
  go_enter Tryd.func26, Tryd.ntmps26
  go_wp2_with (first
    | (refine wpList_store_blk rfl 45 (.tmp 2) (.tmp 4) rfl w.heap.size 45 _ [.int .i64 16, .int .i64 0, .int .u64 0, .int .u64 0, .slice A n c] rfl rfl HK.out rfl (by kernel_rfl) (fun u hu => by simp at hu; rcases hu with rfl | rfl | rfl | rfl <;> rfl) ?_; intro W3 hz hg; have HZ3 := Lib.hid hz; have HG3 := Lib.hid hg; clear hz hg)
    | fail)
  refine bodyPost_ret (results_cell_row rfl _ _ w.heap.size 45 _ (0, 0) _ rfl HZ3.out.heap Tryd.underlying45 rfl rfl) rfl ?_
  exact ⟨rfl, below_grown HB.out HG3.out (Nat.le_refl _)⟩
/-! ### nodes made by the law -/
theorem nodeR_leaf {w : World} {F : Nat → Prop} (n : Nat) {k f v m : Int} (h : (Nd.mk k f v m []).Fits) : nodeR (n + 1) w F [.int .i64 k, .int .i64 f, .int .u64 v, .int .u64 m, .slice none 0 0] (.mk k f v m []) := ⟨_, rfl, h, listR.nil⟩
theorem nodeR_kids {w : World} {F : Nat → Prop} {n g c : Nat} {k f v m : Int} {ks : List Nd} {css : List (List Value)} (h : (Nd.mk k f v m ks).Fits) (hl : css.length = ks.length) (hc : ks.length ≤ c) (hm : c ≤ maxLen) (hg : F g) (hr : ∀ i cs x, css[i]? = some cs → ks[i]? = some x → nodeR n w F cs x ∧ w.rangeAt g (i * 5) cs) :
    nodeR (n + 1) w F [.int .i64 k, .int .i64 f, .int .u64 v, .int .u64 m, .slice (some ⟨g, 0, none⟩) ks.length c] (.mk k f v m ks) := by
  refine ⟨_, rfl, h, some ⟨g, 0, none⟩, c, rfl, hc, hm, fun i x hx => ?_⟩
  have hx' : ks[i]? = some x := hx
  obtain ⟨cs, hcs⟩ : ∃ cs, css[i]? = some cs := ⟨_, List.getElem?_eq_getElem (by rw [hl]; exact (List.getElem?_eq_some_iff.1 hx').1)⟩
  have h2 := hr i cs x hcs hx'
  exact ⟨g, 0, cs, rfl, hg, h2.1, by simpa using h2.2⟩
theorem nodeR_two {w : World} {F : Nat → Prop} {n g : Nat} {t : TypeId} {k f v m : Int} {a b : Nd} {c1 c2 : List Value} (h : (Nd.mk k f v m [a, b]).Fits) (hg : F g) (hb : Blk w g t (c1 ++ c2).toArray) (h1 : nodeR n w F c1 a) (h2 : nodeR n w F c2 b) :
    nodeR (n + 1) w F [.int .i64 k, .int .i64 f, .int .u64 v, .int .u64 m, .slice (some ⟨g, 0, none⟩) 2 2] (.mk k f v m [a, b]) := by
  have hl := (nodeR_ok n).len h1
  refine nodeR_kids (css := [c1, c2]) h rfl (Nat.le_refl _) (by simp [maxLen]) hg fun i cs x hcs hx => ?_
  match i, hcs, hx with
  | 0, rfl, rfl =>
    refine ⟨h1, ?_⟩
    have := rangeAt_take hb.range 5
    rw [List.take_left' hl] at this
    exact this
  | 1, rfl, rfl =>
    refine ⟨h2, ?_⟩
    have := rangeAt_drop hb.range 5
    rw [List.drop_left' hl] at this
    exact this
theorem nodeR_single {w : World} {F : Nat → Prop} {n g : Nat} {t : TypeId} {k f v m : Int} {a : Nd} {c1 : List Value} (h : (Nd.mk k f v m [a]).Fits) (hg : F g) (hb : Blk w g t c1.toArray) (h1 : nodeR n w F c1 a) :
    nodeR (n + 1) w F [.int .i64 k, .int .i64 f, .int .u64 v, .int .u64 m, .slice (some ⟨g, 0, none⟩) 1 1] (.mk k f v m [a]) := by
  refine nodeR_kids (css := [c1]) h rfl (Nat.le_refl _) (by simp [maxLen]) hg fun i cs x hcs hx => ?_
  match i, hcs, hx with
  | 0, rfl, rfl => exact ⟨h1, hb.range⟩
end Go.Proofs.YtjeligbgcofaeaaDoor
