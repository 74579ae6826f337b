/- The law PolicySets. -/
import Derived.Test.YtjeligbgcofaeaaDoorPoJ
namespace Go.Proofs.YtjeligbgcofaeaaDoor
open Go.RowKit
set_option linter.unusedVariables false
set_option linter.unusedSimpArgs false

theorem yields_eqv {P : Program} {ops : Array Oper} {S : World → Prop} {op : Oper} {a : Act} (hw : Region.wanted op (yielded ops a.tmps) = true) (o : BinOp) (t : TypeId) (x y : Operand) (t2 : TypeId) (ho : op.op = .binOp o t x y t2) (vx vy : Array Value) (hx : a.eval x = .agg vx) (hy : a.eval y = .agg vy) (r : Value)
    (hm : P.eqGuardType P.depth t = false) (hr : ∀ w, (binOp o t (.agg vx) (.agg vy)).run P w = .ok r w) : YieldsIf P ops S op r a :=
  .inl ⟨hw, fun w _ => by
    unfold execOp
    simp only [ho, hx, hy, Sem.run_bind, Sem.run_pure, run_eqGuard_agg (P := P) w o t x y vx vy hm, hr, Result.andThen_ok]⟩
def SetsP (rt : Bool) (y : OHdr) (o e : Value) (wx : World) : Prop := (rt = false ∧ o = .slice none 0 0 ∧ e = .int .i64 1) ∨ (rt = true ∧ ∃ b1 o1 c1, o = .slice (some ⟨b1, o1, none⟩) 1 c1 ∧ e = .int .i64 0 ∧ ∀ w', Below wx.heap.size wx w' → w'.rangeAt b1 o1 y.1.vals)
def rightS (f a b : Int) : Bool := decide (0 ≤ f ∧ f < 9 ∧ f ≠ 3 ∧ f ≠ 6 ∧ a ≤ fullI f ∧ b ≤ fullI f)
theorem leaf_walk (f v left deep : Int) (hl : 1 ≤ left) (hd : 1 ≤ deep) : walkN (.mk 14 f v 0 []) false left deep = if f < 0 ∨ 9 ≤ f ∨ f = 3 ∨ f = 6 ∨ fullI f < v then (0, 1) else (1, 0) := by
  rw [walkN, if_neg (by omega), if_neg (by omega), if_neg (by simp [predB]), if_neg (by omega)]
  by_cases hc : f < 0 ∨ 9 ≤ f ∨ f = 3 ∨ f = 6 ∨ fullI f < v
  · rw [if_pos ⟨rfl, hc⟩, if_pos hc]
  · rw [if_neg (fun h => hc h.2), if_neg hc, if_neg (by simp [loK, hiK]), walkKs]
def setsN (f a b : Int) : Nd := .mk 16 0 0 0 [.mk 14 f a 0 [], .mk 14 f b 0 []]
theorem wantK16 (i : Nat) : wantK 16 i = false := by simp [wantK, predB]
theorem sets_walk (f a b : Int) : (walkN (setsN f a b) false 64 16).2 = if rightS f a b then 0 else 1 := by
  unfold setsN
  rw [walkN, if_neg (by omega), if_neg (by omega), if_neg (by simp [predB]), if_neg (by omega), if_neg (by omega), if_neg (by simp [loK, hiK]), walkKs, wantK16, leaf_walk _ _ _ _ (by omega) (by omega)]
  unfold rightS
  by_cases ha : f < 0 ∨ 9 ≤ f ∨ f = 3 ∨ f = 6 ∨ fullI f < a
  · rw [if_pos ha, if_pos (by decide), if_neg (by rw [decide_eq_true_eq]; omega)]
  · rw [if_neg ha, if_neg (by decide), walkKs, wantK16, leaf_walk _ _ _ _ (by omega) (by omega)]
    by_cases hb : f < 0 ∨ 9 ≤ f ∨ f = 3 ∨ f = 6 ∨ fullI f < b
    · rw [if_pos hb, if_pos (by decide), if_neg (by rw [decide_eq_true_eq]; omega)]
    · rw [if_neg hb, if_neg (by decide), walkKs, if_pos (by rw [decide_eq_true_eq]; omega)]
theorem with_with (h : Hdr) (k : Nat) (x y : Int) : withH (withH h k x) k y = withH h k y := by
  match k with
  | 0 => rfl
  | 1 => rfl
  | 2 => rfl
  | 3 => rfl
  | 4 => rfl
  | 5 => rfl
  | 6 => rfl
  | 7 => rfl
  | 8 => rfl
  | k + 9 => rfl
theorem eachF_one (run : OHdr → List OHdr × Bool) (g p : OHdr) (h : run g = ([p], true)) : eachF run [g] [] = ([p], true) := by
  rw [eachF, h, joinF_one]
  rfl
theorem sets_run {f a b : Int} (hr : rightS f a b = true) (ha : 0 ≤ a) (hb : 0 ≤ b) (h : OHdr) : runN (setsN f a b) h = ([withO h f b], true) := by
  have hr' := of_decide_eq_true hr
  obtain ⟨k, rfl⟩ : ∃ k : Nat, f = k := ⟨f.toNat, by omega⟩
  have hfi : fullI (k : Int) = fullN k := by unfold fullI; rw [if_pos (by omega)]; rfl
  rw [hfi] at hr'
  unfold setsN
  rw [runN, if_neg (by omega), if_neg (by omega), if_neg (by omega), if_neg (by omega), if_pos rfl, runSeq, eachF_one _ _ _ (runN_set (k : Int) a 0 [] h)]
  show runSeq [.mk 14 (k : Int) b 0 []] [withO h (k : Int) a] = _
  rw [runSeq, eachF_one _ _ _ (runN_set (k : Int) b 0 [] _)]
  show runSeq [] [withO (withO h (k : Int) a) (k : Int) b] = _
  rw [runSeq]
  congr 2
  apply Subtype.ext
  rw [withO_val (by omega) hb hr'.2.2.2.2.2, withO_val (by omega) ha hr'.2.2.2.2.1, withO_val (by omega) hb hr'.2.2.2.2.2, with_with]
theorem fwd_walk (p : Int) (h0 : 0 ≤ p) (h1 : p ≤ 255) : (walkN (fwdN p) false 64 16).2 = 0 := by
  unfold fwdN
  rw [leaf_walk _ _ _ _ (by omega) (by omega), if_neg]
  have : fullI 0 = 255 := by unfold fullI; rw [if_pos (by omega)]; rfl
  rw [this]
  omega
theorem sets_node {w : World} {g : Nat} {f a b : Int} (hf : I64 f) (ha : U64 a) (hb : U64 b) (hk : Blk w g 45 #[.int .i64 14, .int .i64 f, .int .u64 a, .int .u64 0, .slice none 0 0, .int .i64 14, .int .i64 f, .int .u64 b, .int .u64 0, .slice none 0 0]) : nodeR 2 w (fun x => x < w.heap.size) [.int .i64 16, .int .i64 0, .int .u64 0, .int .u64 0, .slice (some ⟨g, 0, none⟩) 2 2] (setsN f a b) :=
  nodeR_two (c1 := [.int .i64 14, .int .i64 f, .int .u64 a, .int .u64 0, .slice none 0 0]) (c2 := [.int .i64 14, .int .i64 f, .int .u64 b, .int .u64 0, .slice none 0 0]) (fits_small (by omega) (by omega) i64_zero u64_zero u64_zero) hk.lt hk (nodeR_leaf 0 (fits_small (by omega) (by omega) hf ha u64_zero)) (nodeR_leaf 0 (fits_small (by omega) (by omega) hf hb u64_zero))
set_option maxRecDepth 100000 in
set_option maxHeartbeats 16000000 in
theorem law_sets (hex : EXP) (h : Hdr) (f a b port : Int) (w : World) (hT : Tab w) (hf : h.Fits) (hff : I64 f) (ha : U64 a) (hb : U64 b) (hp : I64 port) :
    Calls Tryd.prog 6 #[.agg h.vals.toArray, .int .i64 f, .int .u64 a, .int .u64 b, .int .i64 port] w fun e w' => e = .returned (.bool true) ∧ Below w.heap.size w w' := by
  have HX : Hid (Below w.heap.size w (w.alloc (.cells h.vals.toArray 31)) ∧ Blk (w.alloc (.cells h.vals.toArray 31)) w.heap.size 31 h.vals.toArray) := Lib.hid ⟨(Below.refl _ _).alloc (Nat.le_refl _) _, Blk.new w _ _⟩
  have HT := Lib.hid hT
  have HF := Lib.hid hf
  have HA := Lib.hid ha
  have HB := Lib.hid hb
  have HFF := Lib.hid hff
  have HEX := Lib.hid hex
  clear hT hf hex
  go_enter Tryd.func6, Tryd.ntmps6
  go_upto_region 1 with fail
  refine wp_gen (fun W => Below w.heap.size w W ∧ Blk W w.heap.size 31 h.vals.toArray) HX.out ?_
  rintro W ⟨hW, hk1⟩
  have HW := Lib.hid hW
  have HTW := Lib.hid (HT.out.below hW)
  have RH := Lib.hid (fun w' (q : Below W.heap.size W w') => (hk1.below q hk1.lt).range)
  have C0 := Lib.hid (HEX.out W HTW.out)
  have CK := Lib.hid (fun W2 (q : Below W.heap.size W W2) => hd_Check h W2 (HTW.out.below q) HF.out)
  have hB : Below W.heap.size W W := Below.refl _ _
  clear hW hk1 HX HEX HT
  cases hok : okH h
  · rw [chkE_no hok] at CK
    clear hok
    go_wp2_with (first
      | (go_at_call 16; (with_reducible refine C0.out.mono ?_); rintro e u ⟨rfl, hb⟩; replace hB := below_step hB hb; clear hb)
      | (refine wpList_load_mid rfl 31 (.tmp 5) rfl w.heap.size 0 rfl h.vals _ (RH.out _ hB) Tryd.underlying31 rfl (by kernel_rfl) ?_)
      | (go_at_call 21; (with_reducible refine (CK.out _ hB).mono ?_); rintro e u ⟨rfl, hb⟩; replace hB := below_step hB hb; clear hb)
      | fail)
    go_ret
    exact ⟨rfl, below_step HW.out hB⟩
  rw [chkE_yes hok] at CK
  obtain ⟨oh, hoh⟩ : ∃ oh : OHdr, oh.1 = h := ⟨⟨h, HF.out, hok⟩, rfl⟩
  have HOH := Lib.hid hoh
  clear hok hoh
  go_upto_region 5 with (first
    | (go_at_call 16; (with_reducible refine C0.out.mono ?_); rintro e u ⟨rfl, hb⟩; replace hB := below_step hB hb; clear hb)
    | (refine wpList_load_mid rfl 31 (.tmp 5) rfl w.heap.size 0 rfl h.vals _ (RH.out _ hB) Tryd.underlying31 rfl (by kernel_rfl) ?_)
    | (go_at_call 21; (with_reducible refine (CK.out _ hB).mono ?_); rintro e u0 ⟨rfl, hb⟩; replace hB := below_step hB hb; clear hb)
    | fail)
  refine wp_gen (fun V0 => Below W.heap.size W V0) hB ?_
  intro V0 hV0
  have HV0 := Lib.hid hV0
  have RHV0 := Lib.hid (fun w' (q : Below V0.heap.size V0 w') => RH.out w' (below_step hV0 q))
  have HTV := Lib.hid (HTW.out.below hV0)
  have HVX : Hid (Below V0.heap.size V0 ((V0.alloc (.cells #[.int .i64 14, .int .i64 f, .int .u64 a, .int .u64 0, .slice none 0 0] 45)).alloc (.cells #[.int .i64 14, .int .i64 f, .int .u64 b, .int .u64 0, .slice none 0 0] 45)) ∧ ((V0.alloc (.cells #[.int .i64 14, .int .i64 f, .int .u64 a, .int .u64 0, .slice none 0 0] 45)).alloc (.cells #[.int .i64 14, .int .i64 f, .int .u64 b, .int .u64 0, .slice none 0 0] 45)).rangeAt V0.heap.size 0 [.int .i64 14, .int .i64 f, .int .u64 a, .int .u64 0, .slice none 0 0] ∧ ((V0.alloc (.cells #[.int .i64 14, .int .i64 f, .int .u64 a, .int .u64 0, .slice none 0 0] 45)).alloc (.cells #[.int .i64 14, .int .i64 f, .int .u64 b, .int .u64 0, .slice none 0 0] 45)).rangeAt (V0.heap.size + 1) 0 [.int .i64 14, .int .i64 f, .int .u64 b, .int .u64 0, .slice none 0 0]) := by
    have b1 := Blk.new V0 45 #[.int .i64 14, .int .i64 f, .int .u64 a, .int .u64 0, .slice none 0 0]
    have l1 := (Below.refl V0.heap.size V0).alloc (Nat.le_refl _) (.cells #[.int .i64 14, .int .i64 f, .int .u64 a, .int .u64 0, .slice none 0 0] 45)
    generalize hW1 : V0.alloc (.cells #[.int .i64 14, .int .i64 f, .int .u64 a, .int .u64 0, .slice none 0 0] 45) = W1 at b1 l1 ⊢
    have s1 : W1.heap.size = V0.heap.size + 1 := by rw [← hW1]; simp
    have b2 := Blk.new W1 45 #[.int .i64 14, .int .i64 f, .int .u64 b, .int .u64 0, .slice none 0 0]
    have l2 := (Below.refl W1.heap.size W1).alloc (Nat.le_refl _) (.cells #[.int .i64 14, .int .i64 f, .int .u64 b, .int .u64 0, .slice none 0 0] 45)
    rw [s1] at b2
    exact Lib.hid ⟨below_step l1 l2, (b1.below l2 b1.lt).range, b2.range⟩
  clear hV0 hB CK C0
  go_upto_region 7 with (first
    | (refine wpList_store_new rfl 45 (.tmp 11) (.tmp 28) rfl V0.heap.size _ _ [.int .i64 14, .int .i64 f, .int .u64 a, .int .u64 0, .slice none 0 0] rfl rfl rfl rfl (by kernel_rfl) (fun u hu => by simp at hu; rcases hu with rfl | rfl | rfl | rfl | rfl <;> rfl) ?_)
    | (refine wpList_store_new rfl 45 (.tmp 12) (.tmp 31) rfl (V0.alloc (.cells #[.int .i64 14, .int .i64 f, .int .u64 a, .int .u64 0, .slice none 0 0] 45)).heap.size _ _ [.int .i64 14, .int .i64 f, .int .u64 b, .int .u64 0, .slice none 0 0] rfl rfl rfl rfl (by kernel_rfl) (fun u hu => by simp at hu; rcases hu with rfl | rfl | rfl | rfl | rfl <;> rfl) ?_)
    | fail)
  refine wp_gen (fun V => Below V0.heap.size V0 V ∧ V.rangeAt V0.heap.size 0 [.int .i64 14, .int .i64 f, .int .u64 a, .int .u64 0, .slice none 0 0] ∧ V.rangeAt (V0.heap.size + 1) 0 [.int .i64 14, .int .i64 f, .int .u64 b, .int .u64 0, .slice none 0 0]) HVX.out ?_
  rintro V ⟨hV, hr1, hr2⟩
  try simp only [Act.put, List.setIfInBounds_toArray, List.set_cons_zero, List.set_cons_succ]
  have HV := Lib.hid (below_step HW.out (below_step HV0.out hV))
  have RHV := Lib.hid (fun w' (q : Below V.heap.size V w') => RHV0.out w' (below_step hV q))
  have HTVV := Lib.hid (HTV.out.below hV)
  have R1 := Lib.hid (fun w' (q : Below V.heap.size V w') => rangeAt_below hr1 q (rangeAt_lt hr1 (by simp)))
  have R2 := Lib.hid (fun w' (q : Below V.heap.size V w') => rangeAt_below hr2 q (rangeAt_lt hr2 (by simp)))
  have hB : Below V.heap.size V V := Below.refl _ _
  have hAL : Below V.heap.size V (V.alloc (.cells #[.int .i64 14, .int .i64 f, .int .u64 a, .int .u64 0, .slice none 0 0, .int .i64 14, .int .i64 f, .int .u64 b, .int .u64 0, .slice none 0 0] 45)) := hB.alloc (Nat.le_refl _) _
  obtain ⟨rt, hrt⟩ : ∃ rt, rt = rightS f a b := ⟨_, rfl⟩
  have HRT := Lib.hid hrt
  have hp0 : 0 ≤ port % 256 ∧ port % 256 ≤ 255 := by omega
  have DF := Lib.hid (fun W2 (q : Below V.heap.size V W2) => (show Calls Tryd.prog 18 #[.agg #[.int .i64 14, .int .i64 0, .int .u64 (port % 256), .int .u64 0, .slice none 0 0], .agg h.vals.toArray] W2 (fun e w' => ∃ b1 o1 c1, e = .returned (.tuple #[.slice (some ⟨b1, o1, none⟩) 1 c1, .int .i64 0]) ∧ b1 < w'.heap.size ∧ w'.rangeAt b1 o1 (withH h 0 (port % 256)).vals ∧ Below W2.heap.size W2 w') from by
    have hh := node_Run_ok 1 (fwdN (port % 256)) [.int .i64 14, .int .i64 0, .int .u64 (port % 256), .int .u64 0, .slice none 0 0] W2 (fun x => x < W2.heap.size) oh (HTVV.out.below q) (fun b hb => hb) (nodeR_leaf 0 (fwd_fits hp0.1 hp0.2)) (fwd_walk _ hp0.1 hp0.2)
    rw [show runN (fwdN (port % 256)) oh = ([withO oh 0 (port % 256)], true) from runN_set _ _ _ _ _] at hh
    rw [HOH.out] at hh
    refine hh.mono ?_
    rintro e w' ⟨v, rfl, hs, hb⟩
    obtain ⟨b1, o1, c1, rfl, hlt, hrg⟩ := Hs.single hs
    have hval := withO_val (h := oh) (k := 0) (v := port % 256) (by omega) hp0.1 (by have : fullN 0 = 255 := rfl; omega)
    rw [show (withO oh 0 (port % 256)).1 = withH oh.1 0 (port % 256) from hval, HOH.out] at hrg
    exact ⟨b1, o1, c1, rfl, hlt, hrg, hb⟩))
  clear hV hr1 hr2 hrt HVX
  obtain ⟨yo, hyo⟩ : ∃ yo, yo = withO oh f b := ⟨_, rfl⟩
  have HYO := Lib.hid hyo
  clear hyo
  go_cut [13, 14] (fun o e wx => SetsP rt yo o e wx ∧ Below V.heap.size V wx)
  case first =>
    cases rt
    · clear HOH
      have HD := Lib.hid (fun W2 (q : Below V.heap.size V W2) g (hk : Blk W2 g 45 #[.int .i64 14, .int .i64 f, .int .u64 a, .int .u64 0, .slice none 0 0, .int .i64 14, .int .i64 f, .int .u64 b, .int .u64 0, .slice none 0 0]) => (show Calls Tryd.prog 18 #[.agg #[.int .i64 16, .int .i64 0, .int .u64 0, .int .u64 0, .slice (some ⟨g, 0, none⟩) 2 2], .agg h.vals.toArray] W2 (fun e w' => e = .returned (.tuple #[.slice none 0 0, .int .i64 1]) ∧ Below W2.heap.size W2 w') from by
        have hw := sets_walk f a b
        rw [← HRT.out] at hw
        have hh := node_Run_bad 2 (setsN f a b) [.int .i64 16, .int .i64 0, .int .u64 0, .int .u64 0, .slice (some ⟨g, 0, none⟩) 2 2] W2 (fun x => x < W2.heap.size) h (HTVV.out.below q) (fun b hb => hb) (sets_node HFF.out HA.out HB.out hk) (by rw [hw]; decide)
        rw [hw] at hh
        exact hh))
      refine wp_region_held_drew (S := (fun w' => Below V.heap.size V w')) (by kernel_rfl) ?_ (fun hHeld => ?_)
      · (try dsimp only); (first | (with_reducible exact below_step (by assumption) hb1') | (repeat' (first | (with_reducible exact Below.refl _ _) | (with_reducible assumption) | (with_reducible exact Below.size (by assumption)) | (with_reducible refine Below.drew ?_))))
      refine wpAnyH_take (i := 0) (v := _) rfl (by kernel_rfl) (by kernel_rfl) (by kernel_rfl) (fun _ _ _ h => h) (yieldsIf_load_mid (by rfl) _ _ rfl _ _ rfl [.int .i64 14, .int .i64 f, .int .u64 a, .int .u64 0, .slice none 0 0] _ (fun w' q => R1.out w' q) Tryd.underlying45 rfl (by kernel_rfl)) (by assumption) ?_
      try simp only [List.getElem_toArray, List.getElem_cons_zero, List.getElem_cons_succ, Act.put, List.setIfInBounds_toArray, List.set_cons_zero, List.set_cons_succ]
      refine wpAnyH_take (i := 1) (v := _) rfl (by kernel_rfl) (by kernel_rfl) (by kernel_rfl) (fun _ _ _ h => h) (yieldsIf_load_mid (by rfl) _ _ rfl _ _ rfl [.int .i64 14, .int .i64 f, .int .u64 b, .int .u64 0, .slice none 0 0] _ (fun w' q => R2.out w' q) Tryd.underlying45 rfl (by kernel_rfl)) (by assumption) ?_
      try simp only [List.getElem_toArray, List.getElem_cons_zero, List.getElem_cons_succ, Act.put, List.setIfInBounds_toArray, List.set_cons_zero, List.set_cons_succ]
      refine wpAnyH_take (i := 4) (v := _) rfl (by kernel_rfl) (by kernel_rfl) (by kernel_rfl) (fun _ _ _ h => h) (yieldsIf_load_mid (by rfl) _ _ rfl _ _ rfl h.vals _ (fun w' q => RHV.out w' q) Tryd.underlying31 rfl (by kernel_rfl)) (by assumption) ?_
      try simp only [List.getElem_toArray, List.getElem_cons_zero, List.getElem_cons_succ, Act.put, List.setIfInBounds_toArray, List.set_cons_zero, List.set_cons_succ]
      refine wpAnyH_ready (rs := [2]) (by kernel_rfl) (by simp) ?_
      refine AllReadyH.cons rfl (fun K hK => ?_) AllReadyH.nil
      go_simp
      refine hK.out _ _ ?_ (fun hHeldN => ?_)
      · (try dsimp only); (first | (with_reducible exact below_step (by assumption) hb1') | (repeat' (first | (with_reducible exact Below.refl _ _) | (with_reducible assumption) | (with_reducible exact Below.size (by assumption)) | (with_reducible refine Below.drew ?_))))
      clear hK K hHeld
      try clear hb1' hq
      have hHeld := hHeldN
      clear hHeldN
      try simp only [List.getElem_toArray, List.getElem_cons_zero, List.getElem_cons_succ, Act.put, List.setIfInBounds_toArray, List.set_cons_zero, List.set_cons_succ]
      refine wpAnyH_ready (rs := [3]) (by kernel_rfl) (by simp) ?_
      refine AllReadyH.cons rfl (fun K hK => ?_) AllReadyH.nil
      go_simp
      (go_at_call 26; (with_reducible refine (law_seq _ _ _ _).mono ?_); rintro e u1 ⟨rfl, hbq⟩; have hb1' := below_step hHeld hbq; have CR := Lib.hid (HD.out u1 hb1' _ ((Blk.new V 45 #[.int .i64 14, .int .i64 f, .int .u64 a, .int .u64 0, .slice none 0 0, .int .i64 14, .int .i64 f, .int .u64 b, .int .u64 0, .slice none 0 0]).drew.below hbq (Blk.new V 45 #[.int .i64 14, .int .i64 f, .int .u64 a, .int .u64 0, .slice none 0 0, .int .i64 14, .int .i64 f, .int .u64 b, .int .u64 0, .slice none 0 0]).drew.lt)); have hq := hb1'; clear hbq)
      go_wp2_with fail
      refine hK.out _ _ ?_ (fun hHeldN => ?_)
      · (try dsimp only); (first | (with_reducible exact below_step (by assumption) hb1') | (repeat' (first | (with_reducible exact Below.refl _ _) | (with_reducible assumption) | (with_reducible exact Below.size (by assumption)) | (with_reducible refine Below.drew ?_))))
      clear hK K hHeld
      try clear hb1' hq
      have hHeld := hHeldN
      clear hHeldN
      try simp only [List.getElem_toArray, List.getElem_cons_zero, List.getElem_cons_succ, Act.put, List.setIfInBounds_toArray, List.set_cons_zero, List.set_cons_succ]
      refine wpAnyH_ready (rs := [5]) (by kernel_rfl) (by simp) ?_
      refine AllReadyH.cons rfl (fun K hK => ?_) AllReadyH.nil
      go_simp
      (go_at_call 18; (with_reducible refine CR.out.mono ?_); rintro e u2 ⟨rfl, hbq⟩; have hb1' := below_step hHeld hbq; have hq := hb1'; clear hbq)
      go_wp2_with fail
      refine hK.out _ _ ?_ (fun hHeldN => ?_)
      · (try dsimp only); (first | (with_reducible exact below_step (by assumption) hb1') | (repeat' (first | (with_reducible exact Below.refl _ _) | (with_reducible assumption) | (with_reducible exact Below.size (by assumption)) | (with_reducible refine Below.drew ?_))))
      clear hK K hHeld
      try clear hb1' hq
      have hHeld := hHeldN
      clear hHeldN
      try simp only [List.getElem_toArray, List.getElem_cons_zero, List.getElem_cons_succ, Act.put, List.setIfInBounds_toArray, List.set_cons_zero, List.set_cons_succ]
      refine wpAnyH_take (i := 6) (v := ?_) rfl (by kernel_rfl) (by kernel_rfl) (by kernel_rfl) (fun _ _ _ h => h) (Or.inl ⟨by rfl, ?_⟩) (by assumption) ?_
      rotate_left
      · (intro w hSw; (try dsimp only at hSw); go_simp; first | done | with_reducible rfl)
      try simp only [List.getElem_toArray, List.getElem_cons_zero, List.getElem_cons_succ, Act.put, List.setIfInBounds_toArray, List.set_cons_zero, List.set_cons_succ]
      refine wpAnyH_take (i := 7) (v := ?_) rfl (by kernel_rfl) (by kernel_rfl) (by kernel_rfl) (fun _ _ _ h => h) (Or.inl ⟨by rfl, ?_⟩) (by assumption) ?_
      rotate_left
      · (intro w hSw; (try dsimp only at hSw); go_simp; first | done | with_reducible rfl)
      try simp only [List.getElem_toArray, List.getElem_cons_zero, List.getElem_cons_succ, Act.put, List.setIfInBounds_toArray, List.set_cons_zero, List.set_cons_succ]
      refine wpAnyH_take (i := 8) (v := ?_) rfl (by kernel_rfl) (by kernel_rfl) (by kernel_rfl) (fun _ _ _ h => h) (Or.inl ⟨by rfl, ?_⟩) (by assumption) ?_
      rotate_left
      · (intro w hSw; (try dsimp only at hSw); go_simp; first | done | with_reducible rfl)
      try simp only [List.getElem_toArray, List.getElem_cons_zero, List.getElem_cons_succ, Act.put, List.setIfInBounds_toArray, List.set_cons_zero, List.set_cons_succ]
      refine wpAnyH_take (i := 9) (v := ?_) rfl (by kernel_rfl) (by kernel_rfl) (by kernel_rfl) (fun _ _ _ h => h) (Or.inl ⟨by rfl, ?_⟩) (by assumption) ?_
      rotate_left
      · (intro w hSw; (try dsimp only at hSw); go_simp; first | done | with_reducible rfl)
      try simp only [List.getElem_toArray, List.getElem_cons_zero, List.getElem_cons_succ, Act.put, List.setIfInBounds_toArray, List.set_cons_zero, List.set_cons_succ]
      refine wpAnyH_take (i := 10) (v := ?_) rfl (by kernel_rfl) (by kernel_rfl) (by kernel_rfl) (fun _ _ _ h => h) (Or.inl ⟨by rfl, ?_⟩) (by assumption) ?_
      rotate_left
      · (intro w hSw; (try dsimp only at hSw); go_simp; first | done | with_reducible rfl)
      try simp only [List.getElem_toArray, List.getElem_cons_zero, List.getElem_cons_succ, Act.put, List.setIfInBounds_toArray, List.set_cons_zero, List.set_cons_succ]
      refine wpAnyH_done (by kernel_rfl) ?_ _
      rename_i hcur
      go_wp2_with fail
      go_meet
      exact ⟨Or.inl ⟨rfl, rfl, rfl⟩, hHeld⟩
    · have HD := Lib.hid (fun W2 (q : Below V.heap.size V W2) g (hk : Blk W2 g 45 #[.int .i64 14, .int .i64 f, .int .u64 a, .int .u64 0, .slice none 0 0, .int .i64 14, .int .i64 f, .int .u64 b, .int .u64 0, .slice none 0 0]) => (show Calls Tryd.prog 18 #[.agg #[.int .i64 16, .int .i64 0, .int .u64 0, .int .u64 0, .slice (some ⟨g, 0, none⟩) 2 2], .agg h.vals.toArray] W2 (fun e w' => ∃ b1 o1 c1, e = .returned (.tuple #[.slice (some ⟨b1, o1, none⟩) 1 c1, .int .i64 0]) ∧ b1 < w'.heap.size ∧ w'.rangeAt b1 o1 yo.1.vals ∧ Below W2.heap.size W2 w') from by
        have hw := sets_walk f a b
        rw [← HRT.out] at hw
        have hh := node_Run_ok 2 (setsN f a b) [.int .i64 16, .int .i64 0, .int .u64 0, .int .u64 0, .slice (some ⟨g, 0, none⟩) 2 2] W2 (fun x => x < W2.heap.size) oh (HTVV.out.below q) (fun b hb => hb) (sets_node HFF.out HA.out HB.out hk) (by rw [hw]; rfl)
        rw [sets_run HRT.out.symm HA.out.1 HB.out.1, ← HYO.out] at hh
        rw [HOH.out] at hh
        refine hh.mono ?_
        rintro e w' ⟨v, rfl, hs, hb⟩
        obtain ⟨b1, o1, c1, rfl, hlt, hrg⟩ := Hs.single hs
        exact ⟨b1, o1, c1, rfl, hlt, hrg, hb⟩))
      refine wp_region_held_drew (S := (fun w' => Below V.heap.size V w')) (by kernel_rfl) ?_ (fun hHeld => ?_)
      · (try dsimp only); (first | (with_reducible exact below_step (by assumption) hb1') | (repeat' (first | (with_reducible exact Below.refl _ _) | (with_reducible assumption) | (with_reducible exact Below.size (by assumption)) | (with_reducible refine Below.drew ?_))))
      refine wpAnyH_take (i := 0) (v := _) rfl (by kernel_rfl) (by kernel_rfl) (by kernel_rfl) (fun _ _ _ h => h) (yieldsIf_load_mid (by rfl) _ _ rfl _ _ rfl [.int .i64 14, .int .i64 f, .int .u64 a, .int .u64 0, .slice none 0 0] _ (fun w' q => R1.out w' q) Tryd.underlying45 rfl (by kernel_rfl)) (by assumption) ?_
      try simp only [List.getElem_toArray, List.getElem_cons_zero, List.getElem_cons_succ, Act.put, List.setIfInBounds_toArray, List.set_cons_zero, List.set_cons_succ]
      refine wpAnyH_take (i := 1) (v := _) rfl (by kernel_rfl) (by kernel_rfl) (by kernel_rfl) (fun _ _ _ h => h) (yieldsIf_load_mid (by rfl) _ _ rfl _ _ rfl [.int .i64 14, .int .i64 f, .int .u64 b, .int .u64 0, .slice none 0 0] _ (fun w' q => R2.out w' q) Tryd.underlying45 rfl (by kernel_rfl)) (by assumption) ?_
      try simp only [List.getElem_toArray, List.getElem_cons_zero, List.getElem_cons_succ, Act.put, List.setIfInBounds_toArray, List.set_cons_zero, List.set_cons_succ]
      refine wpAnyH_take (i := 4) (v := _) rfl (by kernel_rfl) (by kernel_rfl) (by kernel_rfl) (fun _ _ _ h => h) (yieldsIf_load_mid (by rfl) _ _ rfl _ _ rfl h.vals _ (fun w' q => RHV.out w' q) Tryd.underlying31 rfl (by kernel_rfl)) (by assumption) ?_
      try simp only [List.getElem_toArray, List.getElem_cons_zero, List.getElem_cons_succ, Act.put, List.setIfInBounds_toArray, List.set_cons_zero, List.set_cons_succ]
      refine wpAnyH_ready (rs := [2]) (by kernel_rfl) (by simp) ?_
      refine AllReadyH.cons rfl (fun K hK => ?_) AllReadyH.nil
      go_simp
      refine hK.out _ _ ?_ (fun hHeldN => ?_)
      · (try dsimp only); (first | (with_reducible exact below_step (by assumption) hb1') | (repeat' (first | (with_reducible exact Below.refl _ _) | (with_reducible assumption) | (with_reducible exact Below.size (by assumption)) | (with_reducible refine Below.drew ?_))))
      clear hK K hHeld
      try clear hb1' hq
      have hHeld := hHeldN
      clear hHeldN
      try simp only [List.getElem_toArray, List.getElem_cons_zero, List.getElem_cons_succ, Act.put, List.setIfInBounds_toArray, List.set_cons_zero, List.set_cons_succ]
      refine wpAnyH_ready (rs := [3]) (by kernel_rfl) (by simp) ?_
      refine AllReadyH.cons rfl (fun K hK => ?_) AllReadyH.nil
      go_simp
      (go_at_call 26; (with_reducible refine (law_seq _ _ _ _).mono ?_); rintro e u1 ⟨rfl, hbq⟩; have hb1' := below_step hHeld hbq; have CR := Lib.hid (HD.out u1 hb1' _ ((Blk.new V 45 #[.int .i64 14, .int .i64 f, .int .u64 a, .int .u64 0, .slice none 0 0, .int .i64 14, .int .i64 f, .int .u64 b, .int .u64 0, .slice none 0 0]).drew.below hbq (Blk.new V 45 #[.int .i64 14, .int .i64 f, .int .u64 a, .int .u64 0, .slice none 0 0, .int .i64 14, .int .i64 f, .int .u64 b, .int .u64 0, .slice none 0 0]).drew.lt)); have hq := hb1'; clear hbq)
      go_wp2_with fail
      refine hK.out _ _ ?_ (fun hHeldN => ?_)
      · (try dsimp only); (first | (with_reducible exact below_step (by assumption) hb1') | (repeat' (first | (with_reducible exact Below.refl _ _) | (with_reducible assumption) | (with_reducible exact Below.size (by assumption)) | (with_reducible refine Below.drew ?_))))
      clear hK K hHeld
      try clear hb1' hq
      have hHeld := hHeldN
      clear hHeldN
      try simp only [List.getElem_toArray, List.getElem_cons_zero, List.getElem_cons_succ, Act.put, List.setIfInBounds_toArray, List.set_cons_zero, List.set_cons_succ]
      refine wpAnyH_ready (rs := [5]) (by kernel_rfl) (by simp) ?_
      refine AllReadyH.cons rfl (fun K hK => ?_) AllReadyH.nil
      go_simp
      (go_at_call 18; (with_reducible refine CR.out.mono ?_); rintro e u2 ⟨bs, os, cs1, rfl, hlt, hrg, hbq⟩; have HRG := Lib.hid (fun w' (q : Below u2.heap.size u2 w') => rangeAt_below hrg q hlt); clear hlt hrg; have hb1' := below_step hHeld hbq; have hq := hb1'; clear hbq)
      go_wp2_with fail
      refine hK.out _ _ ?_ (fun hHeldN => ?_)
      · (try dsimp only); (first | (with_reducible exact below_step (by assumption) hb1') | (repeat' (first | (with_reducible exact Below.refl _ _) | (with_reducible assumption) | (with_reducible exact Below.size (by assumption)) | (with_reducible refine Below.drew ?_))))
      clear hK K hHeld
      try clear hb1' hq
      have hHeld := hHeldN
      clear hHeldN
      try simp only [List.getElem_toArray, List.getElem_cons_zero, List.getElem_cons_succ, Act.put, List.setIfInBounds_toArray, List.set_cons_zero, List.set_cons_succ]
      refine wpAnyH_take (i := 6) (v := ?_) rfl (by kernel_rfl) (by kernel_rfl) (by kernel_rfl) (fun _ _ _ h => h) (Or.inl ⟨by rfl, ?_⟩) (by assumption) ?_
      rotate_left
      · (intro w hSw; (try dsimp only at hSw); go_simp; first | done | with_reducible rfl)
      try simp only [List.getElem_toArray, List.getElem_cons_zero, List.getElem_cons_succ, Act.put, List.setIfInBounds_toArray, List.set_cons_zero, List.set_cons_succ]
      refine wpAnyH_take (i := 7) (v := ?_) rfl (by kernel_rfl) (by kernel_rfl) (by kernel_rfl) (fun _ _ _ h => h) (Or.inl ⟨by rfl, ?_⟩) (by assumption) ?_
      rotate_left
      · (intro w hSw; (try dsimp only at hSw); go_simp; first | done | with_reducible rfl)
      try simp only [List.getElem_toArray, List.getElem_cons_zero, List.getElem_cons_succ, Act.put, List.setIfInBounds_toArray, List.set_cons_zero, List.set_cons_succ]
      refine wpAnyH_take (i := 8) (v := ?_) rfl (by kernel_rfl) (by kernel_rfl) (by kernel_rfl) (fun _ _ _ h => h) (Or.inl ⟨by rfl, ?_⟩) (by assumption) ?_
      rotate_left
      · (intro w hSw; (try dsimp only at hSw); go_simp; first | done | with_reducible rfl)
      try simp only [List.getElem_toArray, List.getElem_cons_zero, List.getElem_cons_succ, Act.put, List.setIfInBounds_toArray, List.set_cons_zero, List.set_cons_succ]
      refine wpAnyH_take (i := 9) (v := ?_) rfl (by kernel_rfl) (by kernel_rfl) (by kernel_rfl) (fun _ _ _ h => h) (Or.inl ⟨by rfl, ?_⟩) (by assumption) ?_
      rotate_left
      · (intro w hSw; (try dsimp only at hSw); go_simp; first | done | with_reducible rfl)
      try simp only [List.getElem_toArray, List.getElem_cons_zero, List.getElem_cons_succ, Act.put, List.setIfInBounds_toArray, List.set_cons_zero, List.set_cons_succ]
      refine wpAnyH_take (i := 10) (v := ?_) rfl (by kernel_rfl) (by kernel_rfl) (by kernel_rfl) (fun _ _ _ h => h) (Or.inl ⟨by rfl, ?_⟩) (by assumption) ?_
      rotate_left
      · (intro w hSw; (try dsimp only at hSw); go_simp; first | done | with_reducible rfl)
      try simp only [List.getElem_toArray, List.getElem_cons_zero, List.getElem_cons_succ, Act.put, List.setIfInBounds_toArray, List.set_cons_zero, List.set_cons_succ]
      refine wpAnyH_done (by kernel_rfl) ?_ _
      rename_i hcur
      go_wp2_with fail
      go_meet
      exact ⟨Or.inr ⟨rfl, _, _, _, rfl, rfl, HRG.out⟩, hHeld⟩
  case rest =>
  obtain ⟨HOE, hB7⟩ := hcut
  clear hB hAL R1 R2
  have hB := hB7
  clear hB7
  go_upto_region 8 with fail
  go_cut [15] (fun s wx => s = .bool rt ∧ wc = wx)
  case first =>
    as_aux_lemma =>
    by_cases hf0 : f < 0
    · have d1 : decide (f ≥ 0) = false := decide_eq_false (by omega)
      have E : Hid (false = rt) := Lib.hid (by rw [HRT.out]; unfold rightS; rw [decide_eq_false (by omega)])
      go_wp2_with fail
      go_meet
      exact ⟨congrArg Value.bool E.out, rfl⟩
    · have d1 : decide (f ≥ 0) = true := decide_eq_true (by omega)
      by_cases hf9 : 9 ≤ f
      · have d2 : decide (f < 9) = false := decide_eq_false (by omega)
        have E : Hid (false = rt) := Lib.hid (by rw [HRT.out]; unfold rightS; rw [decide_eq_false (by omega)])
        go_wp2_with fail
        go_meet
        exact ⟨congrArg Value.bool E.out, rfl⟩
      · have d2 : decide (f < 9) = true := decide_eq_true (by omega)
        by_cases hf3 : f = 3
        · subst hf3
          have E : Hid (false = rt) := Lib.hid (by rw [HRT.out]; unfold rightS; rw [decide_eq_false (by omega)])
          go_wp2_with fail
          go_meet
          exact ⟨congrArg Value.bool E.out, rfl⟩
        · have d3 : (f != 3) = true := by simpa using hf3
          have d3b : (f == 3) = false := by simpa using hf3
          by_cases hf6 : f = 6
          · subst hf6
            have E : Hid (false = rt) := Lib.hid (by rw [HRT.out]; unfold rightS; rw [decide_eq_false (by omega)])
            go_wp2_with fail
            go_meet
            exact ⟨congrArg Value.bool E.out, rfl⟩
          · have d4 : (f != 6) = true := by simpa using hf6
            have d4b : (f == 6) = false := by simpa using hf6
            obtain ⟨k, rfl⟩ : ∃ k : Nat, f = k := ⟨f.toNat, by omega⟩
            have hfi : fullI (k : Int) = fullN k := by unfold fullI; rw [if_pos (by omega)]; rfl
            have CFU := Lib.hid (fun W2 (q : Below V.heap.size V W2) => hd_Full k W2 (HTVV.out.below q) (by omega))
            have HR2 : Hid (rt = decide (a ≤ (fullN k : Int) ∧ b ≤ (fullN k : Int))) := Lib.hid (by
              rw [HRT.out]
              unfold rightS
              rw [hfi]
              exact decide_eq_decide.2 ⟨fun h => ⟨h.2.2.2.2.1, h.2.2.2.2.2⟩, fun h => ⟨by omega, by omega, hf3, hf6, h.1, h.2⟩⟩)
            obtain ⟨mm, hmm⟩ : ∃ mm, mm = fullN k := ⟨_, rfl⟩
            rw [← hmm] at CFU HR2
            clear hmm hfi
            by_cases ha1 : a ≤ (mm : Int)
            · have d5 : decide (a ≤ (mm : Int)) = true := decide_eq_true ha1
              by_cases hb1 : b ≤ (mm : Int)
              · have d6 : decide (b ≤ (mm : Int)) = true := decide_eq_true hb1
                have E : Hid (true = rt) := Lib.hid (by rw [HR2.out, decide_eq_true ⟨ha1, hb1⟩])
                go_wp2_with (first
                  | (go_at_call 27; (with_reducible refine (CFU.out _ hB).mono ?_); rintro e u ⟨rfl, rfl⟩)
                  | fail)
                go_meet
                exact ⟨congrArg Value.bool E.out, rfl⟩
              · have d6 : decide (b ≤ (mm : Int)) = false := decide_eq_false hb1
                have E : Hid (false = rt) := Lib.hid (by rw [HR2.out, decide_eq_false (fun h => hb1 h.2)])
                go_wp2_with (first
                  | (go_at_call 27; (with_reducible refine (CFU.out _ hB).mono ?_); rintro e u ⟨rfl, rfl⟩)
                  | fail)
                go_meet
                exact ⟨congrArg Value.bool E.out, rfl⟩
            · have d5 : decide (a ≤ (mm : Int)) = false := decide_eq_false ha1
              have E : Hid (false = rt) := Lib.hid (by rw [HR2.out, decide_eq_false (fun h => ha1 h.1)])
              go_wp2_with (first
                | (go_at_call 27; (with_reducible refine (CFU.out _ hB).mono ?_); rintro e u ⟨rfl, rfl⟩)
                | fail)
              go_meet
              exact ⟨congrArg Value.bool E.out, rfl⟩
  case rest =>
  obtain ⟨rfl, rfl⟩ := hcut
  rcases HOE with ⟨rfl, rfl, rfl⟩ | ⟨rfl, b2, o2, c2, rfl, rfl, hrg⟩
  · skip
    have CF := Lib.hid (fun W2 => pol_Fwd port W2)
    go_upto_region 15 with fail
    go_cut [18, 19] (fun s e wx => ∃ b1 o1 c1, s = .slice (some ⟨b1, o1, none⟩) 1 c1 ∧ e = .int .i64 0 ∧ Hid (∀ w', Below wx.heap.size wx w' → w'.rangeAt b1 o1 (withH h 0 (port % 256)).vals) ∧ Hid (Below V.heap.size V wx))
    case first =>
      as_aux_lemma =>
      refine wp_region_held_drew (S := (fun w' => Below V.heap.size V w')) (by kernel_rfl) ?_ (fun hHeld => ?_)
      · (try dsimp only); (first | (with_reducible exact below_step (by assumption) hb1') | (repeat' (first | (with_reducible exact Below.refl _ _) | (with_reducible assumption) | (with_reducible exact Below.size (by assumption)) | (with_reducible refine Below.drew ?_))))
      refine wpAnyH_take (i := 0) (v := ?_) rfl (by kernel_rfl) (by kernel_rfl) (by kernel_rfl) (fun _ _ _ h => h) (Or.inl ⟨by rfl, ?_⟩) (by assumption) ?_
      rotate_left
      · (intro w hSw; (try dsimp only at hSw); go_simp; first | done | with_reducible rfl)
      try simp only [List.getElem_toArray, List.getElem_cons_zero, List.getElem_cons_succ, Act.put, List.setIfInBounds_toArray, List.set_cons_zero, List.set_cons_succ]
      refine wpAnyH_take (i := 2) (v := _) rfl (by kernel_rfl) (by kernel_rfl) (by kernel_rfl) (fun _ _ _ h => h) (yieldsIf_load_mid (by rfl) _ _ rfl _ _ rfl h.vals _ (fun w' q => RHV.out w' q) Tryd.underlying31 rfl (by kernel_rfl)) (by assumption) ?_
      try simp only [List.getElem_toArray, List.getElem_cons_zero, List.getElem_cons_succ, Act.put, List.setIfInBounds_toArray, List.set_cons_zero, List.set_cons_succ]
      refine wpAnyH_ready (rs := [1]) (by kernel_rfl) (by simp) ?_
      refine AllReadyH.cons rfl (fun K hK => ?_) AllReadyH.nil
      go_simp
      (go_at_call 29; (with_reducible refine (CF.out _).mono ?_); rintro e u1 ⟨rfl, hbq⟩; have hb1' := below_step hHeld hbq; have hq := hb1'; clear hbq)
      go_wp2_with fail
      refine hK.out _ _ ?_ (fun hHeldN => ?_)
      · (try dsimp only); (first | (with_reducible exact below_step (by assumption) hb1') | (repeat' (first | (with_reducible exact Below.refl _ _) | (with_reducible assumption) | (with_reducible exact Below.size (by assumption)) | (with_reducible refine Below.drew ?_))))
      clear hK K hHeld
      try clear hb1' hq
      have hHeld := hHeldN
      clear hHeldN
      try simp only [List.getElem_toArray, List.getElem_cons_zero, List.getElem_cons_succ, Act.put, List.setIfInBounds_toArray, List.set_cons_zero, List.set_cons_succ]
      refine wpAnyH_ready (rs := [3]) (by kernel_rfl) (by simp) ?_
      refine AllReadyH.cons rfl (fun K hK => ?_) AllReadyH.nil
      go_simp
      (go_at_call 18; (with_reducible refine (DF.out _ hHeld).mono ?_); rintro e u1 ⟨bs, os, cs1, rfl, hlt, hrg, hbq⟩; have HRG := Lib.hid (fun w' (q : Below u1.heap.size u1 w') => rangeAt_below hrg q hlt); have hb1' := below_step hHeld hbq; have hq := hb1'; clear hbq hlt hrg)
      go_wp2_with fail
      refine hK.out _ _ ?_ (fun hHeldN => ?_)
      · (try dsimp only); (first | (with_reducible exact below_step (by assumption) hb1') | (repeat' (first | (with_reducible exact Below.refl _ _) | (with_reducible assumption) | (with_reducible exact Below.size (by assumption)) | (with_reducible refine Below.drew ?_))))
      clear hK K hHeld
      try clear hb1' hq
      have hHeld := hHeldN
      clear hHeldN
      try simp only [List.getElem_toArray, List.getElem_cons_zero, List.getElem_cons_succ, Act.put, List.setIfInBounds_toArray, List.set_cons_zero, List.set_cons_succ]
      refine wpAnyH_take (i := 4) (v := ?_) rfl (by kernel_rfl) (by kernel_rfl) (by kernel_rfl) (fun _ _ _ h => h) (Or.inl ⟨by rfl, ?_⟩) (by assumption) ?_
      rotate_left
      · (intro w hSw; (try dsimp only at hSw); go_simp; first | done | with_reducible rfl)
      try simp only [List.getElem_toArray, List.getElem_cons_zero, List.getElem_cons_succ, Act.put, List.setIfInBounds_toArray, List.set_cons_zero, List.set_cons_succ]
      refine wpAnyH_take (i := 5) (v := ?_) rfl (by kernel_rfl) (by kernel_rfl) (by kernel_rfl) (fun _ _ _ h => h) (Or.inl ⟨by rfl, ?_⟩) (by assumption) ?_
      rotate_left
      · (intro w hSw; (try dsimp only at hSw); go_simp; first | done | with_reducible rfl)
      try simp only [List.getElem_toArray, List.getElem_cons_zero, List.getElem_cons_succ, Act.put, List.setIfInBounds_toArray, List.set_cons_zero, List.set_cons_succ]
      refine wpAnyH_take (i := 6) (v := ?_) rfl (by kernel_rfl) (by kernel_rfl) (by kernel_rfl) (fun _ _ _ h => h) (Or.inl ⟨by rfl, ?_⟩) (by assumption) ?_
      rotate_left
      · (intro w hSw; (try dsimp only at hSw); go_simp; first | done | with_reducible rfl)
      try simp only [List.getElem_toArray, List.getElem_cons_zero, List.getElem_cons_succ, Act.put, List.setIfInBounds_toArray, List.set_cons_zero, List.set_cons_succ]
      refine wpAnyH_take (i := 7) (v := ?_) rfl (by kernel_rfl) (by kernel_rfl) (by kernel_rfl) (fun _ _ _ h => h) (Or.inl ⟨by rfl, ?_⟩) (by assumption) ?_
      rotate_left
      · (intro w hSw; (try dsimp only at hSw); go_simp; first | done | with_reducible rfl)
      try simp only [List.getElem_toArray, List.getElem_cons_zero, List.getElem_cons_succ, Act.put, List.setIfInBounds_toArray, List.set_cons_zero, List.set_cons_succ]
      refine wpAnyH_take (i := 8) (v := ?_) rfl (by kernel_rfl) (by kernel_rfl) (by kernel_rfl) (fun _ _ _ h => h) (Or.inl ⟨by rfl, ?_⟩) (by assumption) ?_
      rotate_left
      · (intro w hSw; (try dsimp only at hSw); go_simp; first | done | with_reducible rfl)
      try simp only [List.getElem_toArray, List.getElem_cons_zero, List.getElem_cons_succ, Act.put, List.setIfInBounds_toArray, List.set_cons_zero, List.set_cons_succ]
      refine wpAnyH_done (by kernel_rfl) ?_ _
      rename_i hcur
      go_wp2_with fail
      go_meet
      exact ⟨_, _, _, rfl, rfl, HRG, Lib.hid hHeld⟩
    case rest =>
    obtain ⟨bs, os, cs1, rfl, rfl, HRS, HBX⟩ := hcut
    have HHX := Lib.hid (RHV.out _ HBX.out)
    have HBW := Lib.hid (below_step HV.out HBX.out)
    have HNB := Lib.hid (HBW.out.alloc HBW.out.size (.cells h.vals.toArray 31))
    have HNK := Lib.hid (Blk.new wc 31 h.vals.toArray)
    have HNS := Lib.hid (fun w' (q : Below (wc.alloc (.cells h.vals.toArray 31)).heap.size (wc.alloc (.cells h.vals.toArray 31)) w') => HRS.out w' (below_step ((Below.refl wc.heap.size wc).alloc (Nat.le_refl _) _) q))
    have HGT := Lib.hid HBW.out.size
    have HLS := Lib.hid (rangeAt_lt (HRS.out wc (Below.refl _ _)) (by simp [Hdr.vals]))
    go_upto_region 17 with (first
      | (refine wpList_load_mid rfl 31 (.tmp 5) rfl w.heap.size 0 rfl h.vals _ HHX.out Tryd.underlying31 rfl (by kernel_rfl) ?_)
      | (refine wpList_store_new rfl 31 (.tmp 20) (.tmp 96) rfl wc.heap.size _ _ h.vals rfl rfl rfl rfl (by kernel_rfl) (vals_one h) ?_)
      | fail)
    refine wp_gen (fun X => Below w.heap.size w X ∧ Blk X wc.heap.size 31 h.vals.toArray ∧ X.rangeAt bs os (withH h 0 (port % 256)).vals) ⟨HNB.out, HNK.out, HNS.out _ (Below.refl _ _)⟩ ?_
    rintro X ⟨hX, hkX, hrX⟩
    try simp only [Act.put, List.setIfInBounds_toArray, List.set_cons_zero, List.set_cons_succ]
    have fz : X.frozen? ⟨wc.heap.size, 0, none⟩ = false := hkX.free 0
    have cz : X.cell? ⟨wc.heap.size, 0, none⟩ = some (.int .i64 h.port) := hkX.cell 0
    have hand := and_255 port
    have HY : Hid (Below w.heap.size w (X.setCell ⟨wc.heap.size, 0, none⟩ (.int .i64 (port % 256))) ∧ Blk (X.setCell ⟨wc.heap.size, 0, none⟩ (.int .i64 (port % 256))) wc.heap.size 31 (withH h 0 (port % 256)).vals.toArray ∧ (X.setCell ⟨wc.heap.size, 0, none⟩ (.int .i64 (port % 256))).rangeAt bs os (withH h 0 (port % 256)).vals) := Lib.hid ⟨below_grown hX (grownBy_setCell _ _ _ _) HGT.out, hkX.set_ (cs := h.vals) 0 (.int .i64 (port % 256)), rangeAt_block hrX ((grownBy_setCell X wc.heap.size 0 (.int .i64 (port % 256))).block bs (by have := hX.size; have := hkX.lt; have := HLS.out; omega) (fun e => by cases e; exact absurd HLS.out (Nat.lt_irrefl _)))⟩
    clear hX hkX hrX HNB HNK HNS
    go_upto_region 18 with fail
    refine wp_gen (fun X => Below w.heap.size w X ∧ Blk X wc.heap.size 31 (withH h 0 (port % 256)).vals.toArray ∧ X.rangeAt bs os (withH h 0 (port % 256)).vals) HY.out ?_
    rintro Y ⟨hY, hkY, hrY⟩
    try simp only [Act.put, List.setIfInBounds_toArray, List.set_cons_zero, List.set_cons_succ]
    have HYB := Lib.hid hY
    have QW := Lib.hid (fun w' (q : Below Y.heap.size Y w') => (hkY.below q hkY.lt).range)
    have QS := Lib.hid (fun w' (q : Below Y.heap.size Y w') => rangeAt_below hrY q (rangeAt_lt hrY (by simp [Hdr.vals])))
    obtain ⟨z, hz⟩ : ∃ z, z = withH h 0 (port % 256) := ⟨_, rfl⟩
    rw [← hz] at QW QS
    have HEQ : Hid (∀ w, (binOp .eql 31 (.agg z.vals.toArray) (.agg z.vals.toArray)).run Tryd.prog w = .ok (.bool true) w) := Lib.hid fun w => by rw [eql_hdr, (eqHB_iff z z).2 rfl]
    have hYY : Below Y.heap.size Y Y := Below.refl _ _
    clear hY hkY hrY HY fz cz hz
    as_aux_lemma =>
    refine wp_region_held_drew (S := (fun w' => Below Y.heap.size Y w')) (by kernel_rfl) ?_ (fun hHeld => ?_)
    · (try dsimp only); (first | (with_reducible exact below_step (by assumption) hb1') | (repeat' (first | (with_reducible exact Below.refl _ _) | (with_reducible assumption) | (with_reducible exact Below.size (by assumption)) | (with_reducible refine Below.drew ?_))))
    refine wpAnyH_take (i := 0) (v := ?_) rfl (by kernel_rfl) (by kernel_rfl) (by kernel_rfl) (fun _ _ _ h => h) (Or.inl ⟨by rfl, ?_⟩) (by assumption) ?_
    rotate_left
    · (intro w hSw; (try dsimp only at hSw); go_simp; first | done | with_reducible rfl)
    try simp only [List.getElem_toArray, List.getElem_cons_zero, List.getElem_cons_succ, Act.put, List.setIfInBounds_toArray, List.set_cons_zero, List.set_cons_succ]
    refine wpAnyH_take (i := 1) (v := ?_) rfl (by kernel_rfl) (by kernel_rfl) (by kernel_rfl) (fun _ _ _ h => h) (Or.inl ⟨by rfl, ?_⟩) (by assumption) ?_
    rotate_left
    · (intro w hSw; (try dsimp only at hSw); go_simp; first | done | with_reducible rfl)
    try simp only [List.getElem_toArray, List.getElem_cons_zero, List.getElem_cons_succ, Act.put, List.setIfInBounds_toArray, List.set_cons_zero, List.set_cons_succ]
    refine wpAnyH_take (i := 2) (v := ?_) rfl (by kernel_rfl) (by kernel_rfl) (by kernel_rfl) (fun _ _ _ h => h) (Or.inl ⟨by rfl, ?_⟩) (by assumption) ?_
    rotate_left
    · (intro w hSw; (try dsimp only at hSw); go_simp; first | done | with_reducible rfl)
    try simp only [List.getElem_toArray, List.getElem_cons_zero, List.getElem_cons_succ, Act.put, List.setIfInBounds_toArray, List.set_cons_zero, List.set_cons_succ]
    refine wpAnyH_take (i := 3) (v := ?_) rfl (by kernel_rfl) (by kernel_rfl) (by kernel_rfl) (fun _ _ _ h => h) (Or.inl ⟨by rfl, ?_⟩) (by assumption) ?_
    rotate_left
    · (intro w hSw; (try dsimp only at hSw); go_simp; first | done | with_reducible rfl)
    try simp only [List.getElem_toArray, List.getElem_cons_zero, List.getElem_cons_succ, Act.put, List.setIfInBounds_toArray, List.set_cons_zero, List.set_cons_succ]
    refine wpAnyH_take (i := 4) (v := ?_) rfl (by kernel_rfl) (by kernel_rfl) (by kernel_rfl) (fun _ _ _ h => h) (Or.inl ⟨by rfl, ?_⟩) (by assumption) ?_
    rotate_left
    · (intro w hSw; (try dsimp only at hSw); go_simp; first | done | with_reducible rfl)
    try simp only [List.getElem_toArray, List.getElem_cons_zero, List.getElem_cons_succ, Act.put, List.setIfInBounds_toArray, List.set_cons_zero, List.set_cons_succ]
    refine wpAnyH_take (i := 5) (v := ?_) rfl (by kernel_rfl) (by kernel_rfl) (by kernel_rfl) (fun _ _ _ h => h) (Or.inl ⟨by rfl, ?_⟩) (by assumption) ?_
    rotate_left
    · (intro w hSw; (try dsimp only at hSw); go_simp; first | done | with_reducible rfl)
    try simp only [List.getElem_toArray, List.getElem_cons_zero, List.getElem_cons_succ, Act.put, List.setIfInBounds_toArray, List.set_cons_zero, List.set_cons_succ]
    refine wpAnyH_take (i := 6) (v := ?_) rfl (by kernel_rfl) (by kernel_rfl) (by kernel_rfl) (fun _ _ _ h => h) (Or.inl ⟨by rfl, ?_⟩) (by assumption) ?_
    rotate_left
    · (intro w hSw; (try dsimp only at hSw); go_simp; first | done | with_reducible rfl)
    try simp only [List.getElem_toArray, List.getElem_cons_zero, List.getElem_cons_succ, Act.put, List.setIfInBounds_toArray, List.set_cons_zero, List.set_cons_succ]
    refine wpAnyH_take (i := 7) (v := ?_) rfl (by kernel_rfl) (by kernel_rfl) (by kernel_rfl) (fun _ _ _ h => h) (Or.inl ⟨by rfl, ?_⟩) (by assumption) ?_
    rotate_left
    · (intro w hSw; (try dsimp only at hSw); go_simp; first | done | with_reducible rfl)
    try simp only [List.getElem_toArray, List.getElem_cons_zero, List.getElem_cons_succ, Act.put, List.setIfInBounds_toArray, List.set_cons_zero, List.set_cons_succ]
    refine wpAnyH_take (i := 8) (v := ?_) rfl (by kernel_rfl) (by kernel_rfl) (by kernel_rfl) (fun _ _ _ h => h) (Or.inl ⟨by rfl, ?_⟩) (by assumption) ?_
    rotate_left
    · (intro w hSw; (try dsimp only at hSw); go_simp; first | done | with_reducible rfl)
    try simp only [List.getElem_toArray, List.getElem_cons_zero, List.getElem_cons_succ, Act.put, List.setIfInBounds_toArray, List.set_cons_zero, List.set_cons_succ]
    refine wpAnyH_take (i := 9) (v := ?_) rfl (by kernel_rfl) (by kernel_rfl) (by kernel_rfl) (fun _ _ _ h => h) (Or.inl ⟨by rfl, ?_⟩) (by assumption) ?_
    rotate_left
    · (intro w hSw; (try dsimp only at hSw); go_simp; first | done | with_reducible rfl)
    try simp only [List.getElem_toArray, List.getElem_cons_zero, List.getElem_cons_succ, Act.put, List.setIfInBounds_toArray, List.set_cons_zero, List.set_cons_succ]
    refine wpAnyH_take (i := 10) (v := _) rfl (by kernel_rfl) (by kernel_rfl) (by kernel_rfl) (fun _ _ _ h => h) (yieldsIf_load_mid (by rfl) _ _ rfl _ _ rfl z.vals _ (fun w' q => QS.out w' q) Tryd.underlying31 rfl (by kernel_rfl)) (by assumption) ?_
    try simp only [List.getElem_toArray, List.getElem_cons_zero, List.getElem_cons_succ, Act.put, List.setIfInBounds_toArray, List.set_cons_zero, List.set_cons_succ]
    refine wpAnyH_take (i := 11) (v := _) rfl (by kernel_rfl) (by kernel_rfl) (by kernel_rfl) (fun _ _ _ h => h) (yieldsIf_load_mid (by rfl) _ _ rfl _ _ rfl z.vals _ (fun w' q => QW.out w' q) Tryd.underlying31 rfl (by kernel_rfl)) (by assumption) ?_
    try simp only [List.getElem_toArray, List.getElem_cons_zero, List.getElem_cons_succ, Act.put, List.setIfInBounds_toArray, List.set_cons_zero, List.set_cons_succ]
    refine wpAnyH_take (i := 12) (v := _) rfl (by kernel_rfl) (by kernel_rfl) (by kernel_rfl) (fun _ _ _ h => h) (yields_eqv (by rfl) .eql _ _ _ _ rfl z.vals.toArray z.vals.toArray rfl rfl (.bool true) (by kernel_rfl) HEQ.out) (by assumption) ?_
    try simp only [List.getElem_toArray, List.getElem_cons_zero, List.getElem_cons_succ, Act.put, List.setIfInBounds_toArray, List.set_cons_zero, List.set_cons_succ]
    refine wpAnyH_take (i := 13) (v := ?_) rfl (by kernel_rfl) (by kernel_rfl) (by kernel_rfl) (fun _ _ _ h => h) (Or.inl ⟨by rfl, ?_⟩) (by assumption) ?_
    rotate_left
    · (intro w hSw; (try dsimp only at hSw); go_simp; first | done | with_reducible rfl)
    try simp only [List.getElem_toArray, List.getElem_cons_zero, List.getElem_cons_succ, Act.put, List.setIfInBounds_toArray, List.set_cons_zero, List.set_cons_succ]
    refine wpAnyH_take (i := 14) (v := ?_) rfl (by kernel_rfl) (by kernel_rfl) (by kernel_rfl) (fun _ _ _ h => h) (Or.inl ⟨by rfl, ?_⟩) (by assumption) ?_
    rotate_left
    · (intro w hSw; (try dsimp only at hSw); go_simp; first | done | with_reducible rfl)
    try simp only [List.getElem_toArray, List.getElem_cons_zero, List.getElem_cons_succ, Act.put, List.setIfInBounds_toArray, List.set_cons_zero, List.set_cons_succ]
    refine wpAnyH_done (by kernel_rfl) ?_ _
    go_wp2_with fail
    go_ret
    exact ⟨rfl, HYB.out.drew⟩
  · skip
    have HRG := Lib.hid hrg
    clear hrg
    have hr' := of_decide_eq_true HRT.out.symm
    obtain ⟨k, rfl⟩ : ∃ k : Nat, f = k := ⟨f.toNat, by omega⟩
    have hfi : fullI (k : Int) = fullN k := by unfold fullI; rw [if_pos (by omega)]; rfl
    rw [hfi] at hr'
    have hk9 : k < 9 := by omega
    have HZV : Hid (yo.1 = withH h k b) := Lib.hid (by rw [HYO.out, withO_val hk9 HB.out.1 hr'.2.2.2.2.2, HOH.out])
    have CWW := Lib.hid (fun W2 (q : Below V.heap.size V W2) => hd_WithOk h k b W2 (HTVV.out.below q) HF.out hk9 HB.out.1 hr'.2.2.2.2.2)
    rw [HZV.out] at HRG
    obtain ⟨z, hz⟩ : ∃ z, z = withH h k b := ⟨_, rfl⟩
    rw [← hz] at HRG CWW
    have HNE : Hid (∀ w, (binOp .neq 31 (.agg z.vals.toArray) (.agg z.vals.toArray)).run Tryd.prog w = .ok (.bool false) w) := Lib.hid fun w => by rw [neq_hdr, (eqHB_iff z z).2 rfl]; rfl
    have HHC := Lib.hid (RHV.out _ hB)
    clear hz hr' hfi
    go_upto_region 13 with (first
      | (refine wpList_load_mid rfl 31 (.tmp 5) rfl w.heap.size 0 rfl h.vals _ HHC.out Tryd.underlying31 rfl (by kernel_rfl) ?_)
      | (go_at_call 28; (with_reducible refine (CWW.out _ hB).mono ?_); rintro e u5 ⟨rfl, hb⟩; have HU5 := Lib.hid hb; have HB5 := Lib.hid (below_step hB hb); clear hb)
      | (refine wpList_store_new rfl 31 (.tmp 16) (.tmp 77) rfl u5.heap.size _ _ z.vals rfl rfl rfl rfl (by kernel_rfl) (vals_one z) ?_)
      | fail)
    refine wp_gen (fun V5 => Below V.heap.size V V5 ∧ Blk V5 u5.heap.size 31 z.vals.toArray ∧ V5.rangeAt b2 o2 z.vals) ⟨HB5.out.alloc HB5.out.size _, Blk.new u5 _ _, HRG.out _ (HU5.out.alloc HU5.out.size _)⟩ ?_
    rintro V5 ⟨hV5, hk5, hr5⟩
    try simp only [Act.put, List.setIfInBounds_toArray, List.set_cons_zero, List.set_cons_succ]
    have RW5 := Lib.hid (fun w' (q : Below V5.heap.size V5 w') => (hk5.below q hk5.lt).range)
    have RS5 := Lib.hid (fun w' (q : Below V5.heap.size V5 w') => rangeAt_below hr5 q (rangeAt_lt hr5 (by simp [Hdr.vals])))
    have H55 : Below V5.heap.size V5 V5 := Below.refl _ _
    have HV5 := Lib.hid hV5
    clear hV5 hk5 hr5 hB
    go_cut [88] (fun s wx => s = .bool false ∧ Below V5.heap.size V5 wx)
    case first =>
      as_aux_lemma =>
      refine wp_region_held_drew (S := (fun w' => Below V5.heap.size V5 w')) (by kernel_rfl) ?_ (fun hHeld => ?_)
      · (try dsimp only); (first | (with_reducible exact below_step (by assumption) hb1') | (repeat' (first | (with_reducible exact Below.refl _ _) | (with_reducible assumption) | (with_reducible exact Below.size (by assumption)) | (with_reducible refine Below.drew ?_))))
      refine wpAnyH_take (i := 0) (v := ?_) rfl (by kernel_rfl) (by kernel_rfl) (by kernel_rfl) (fun _ _ _ h => h) (Or.inl ⟨by rfl, ?_⟩) (by assumption) ?_
      rotate_left
      · (intro w hSw; (try dsimp only at hSw); go_simp; first | done | with_reducible rfl)
      try simp only [List.getElem_toArray, List.getElem_cons_zero, List.getElem_cons_succ, Act.put, List.setIfInBounds_toArray, List.set_cons_zero, List.set_cons_succ]
      refine wpAnyH_take (i := 1) (v := ?_) rfl (by kernel_rfl) (by kernel_rfl) (by kernel_rfl) (fun _ _ _ h => h) (Or.inl ⟨by rfl, ?_⟩) (by assumption) ?_
      rotate_left
      · (intro w hSw; (try dsimp only at hSw); go_simp; first | done | with_reducible rfl)
      try simp only [List.getElem_toArray, List.getElem_cons_zero, List.getElem_cons_succ, Act.put, List.setIfInBounds_toArray, List.set_cons_zero, List.set_cons_succ]
      refine wpAnyH_take (i := 2) (v := ?_) rfl (by kernel_rfl) (by kernel_rfl) (by kernel_rfl) (fun _ _ _ h => h) (Or.inl ⟨by rfl, ?_⟩) (by assumption) ?_
      rotate_left
      · (intro w hSw; (try dsimp only at hSw); go_simp; first | done | with_reducible rfl)
      try simp only [List.getElem_toArray, List.getElem_cons_zero, List.getElem_cons_succ, Act.put, List.setIfInBounds_toArray, List.set_cons_zero, List.set_cons_succ]
      refine wpAnyH_take (i := 3) (v := ?_) rfl (by kernel_rfl) (by kernel_rfl) (by kernel_rfl) (fun _ _ _ h => h) (Or.inl ⟨by rfl, ?_⟩) (by assumption) ?_
      rotate_left
      · (intro w hSw; (try dsimp only at hSw); go_simp; first | done | with_reducible rfl)
      try simp only [List.getElem_toArray, List.getElem_cons_zero, List.getElem_cons_succ, Act.put, List.setIfInBounds_toArray, List.set_cons_zero, List.set_cons_succ]
      refine wpAnyH_take (i := 4) (v := ?_) rfl (by kernel_rfl) (by kernel_rfl) (by kernel_rfl) (fun _ _ _ h => h) (Or.inl ⟨by rfl, ?_⟩) (by assumption) ?_
      rotate_left
      · (intro w hSw; (try dsimp only at hSw); go_simp; first | done | with_reducible rfl)
      try simp only [List.getElem_toArray, List.getElem_cons_zero, List.getElem_cons_succ, Act.put, List.setIfInBounds_toArray, List.set_cons_zero, List.set_cons_succ]
      refine wpAnyH_take (i := 5) (v := ?_) rfl (by kernel_rfl) (by kernel_rfl) (by kernel_rfl) (fun _ _ _ h => h) (Or.inl ⟨by rfl, ?_⟩) (by assumption) ?_
      rotate_left
      · (intro w hSw; (try dsimp only at hSw); go_simp; first | done | with_reducible rfl)
      try simp only [List.getElem_toArray, List.getElem_cons_zero, List.getElem_cons_succ, Act.put, List.setIfInBounds_toArray, List.set_cons_zero, List.set_cons_succ]
      refine wpAnyH_take (i := 6) (v := _) rfl (by kernel_rfl) (by kernel_rfl) (by kernel_rfl) (fun _ _ _ h => h) (yieldsIf_load_mid (by rfl) _ _ rfl _ _ rfl z.vals _ (fun w' q => RS5.out w' q) Tryd.underlying31 rfl (by kernel_rfl)) (by assumption) ?_
      try simp only [List.getElem_toArray, List.getElem_cons_zero, List.getElem_cons_succ, Act.put, List.setIfInBounds_toArray, List.set_cons_zero, List.set_cons_succ]
      refine wpAnyH_take (i := 7) (v := _) rfl (by kernel_rfl) (by kernel_rfl) (by kernel_rfl) (fun _ _ _ h => h) (yieldsIf_load_mid (by rfl) _ _ rfl _ _ rfl z.vals _ (fun w' q => RW5.out w' q) Tryd.underlying31 rfl (by kernel_rfl)) (by assumption) ?_
      try simp only [List.getElem_toArray, List.getElem_cons_zero, List.getElem_cons_succ, Act.put, List.setIfInBounds_toArray, List.set_cons_zero, List.set_cons_succ]
      refine wpAnyH_take (i := 8) (v := _) rfl (by kernel_rfl) (by kernel_rfl) (by kernel_rfl) (fun _ _ _ h => h) (yields_eqv (by rfl) .neq _ _ _ _ rfl z.vals.toArray z.vals.toArray rfl rfl (.bool false) (by kernel_rfl) HNE.out) (by assumption) ?_
      try simp only [List.getElem_toArray, List.getElem_cons_zero, List.getElem_cons_succ, Act.put, List.setIfInBounds_toArray, List.set_cons_zero, List.set_cons_succ]
      refine wpAnyH_take (i := 9) (v := ?_) rfl (by kernel_rfl) (by kernel_rfl) (by kernel_rfl) (fun _ _ _ h => h) (Or.inl ⟨by rfl, ?_⟩) (by assumption) ?_
      rotate_left
      · (intro w hSw; (try dsimp only at hSw); go_simp; first | done | with_reducible rfl)
      try simp only [List.getElem_toArray, List.getElem_cons_zero, List.getElem_cons_succ, Act.put, List.setIfInBounds_toArray, List.set_cons_zero, List.set_cons_succ]
      refine wpAnyH_done (by kernel_rfl) ?_ _
      go_wp2_with fail
      go_meet
      exact ⟨rfl, H55.drew⟩
    case rest =>
    obtain ⟨rfl, hB6⟩ := hcut
    have hB := below_step HV5.out hB6
    clear hB6 H55
    have CF := Lib.hid (fun W2 => pol_Fwd port W2)
    go_upto_region 15 with fail
    go_cut [18, 19] (fun s e wx => ∃ b1 o1 c1, s = .slice (some ⟨b1, o1, none⟩) 1 c1 ∧ e = .int .i64 0 ∧ Hid (∀ w', Below wx.heap.size wx w' → w'.rangeAt b1 o1 (withH h 0 (port % 256)).vals) ∧ Hid (Below V.heap.size V wx))
    case first =>
      as_aux_lemma =>
      refine wp_region_held_drew (S := (fun w' => Below V.heap.size V w')) (by kernel_rfl) ?_ (fun hHeld => ?_)
      · (try dsimp only); (first | (with_reducible exact below_step (by assumption) hb1') | (repeat' (first | (with_reducible exact Below.refl _ _) | (with_reducible assumption) | (with_reducible exact Below.size (by assumption)) | (with_reducible refine Below.drew ?_))))
      refine wpAnyH_take (i := 0) (v := ?_) rfl (by kernel_rfl) (by kernel_rfl) (by kernel_rfl) (fun _ _ _ h => h) (Or.inl ⟨by rfl, ?_⟩) (by assumption) ?_
      rotate_left
      · (intro w hSw; (try dsimp only at hSw); go_simp; first | done | with_reducible rfl)
      try simp only [List.getElem_toArray, List.getElem_cons_zero, List.getElem_cons_succ, Act.put, List.setIfInBounds_toArray, List.set_cons_zero, List.set_cons_succ]
      refine wpAnyH_take (i := 2) (v := _) rfl (by kernel_rfl) (by kernel_rfl) (by kernel_rfl) (fun _ _ _ h => h) (yieldsIf_load_mid (by rfl) _ _ rfl _ _ rfl h.vals _ (fun w' q => RHV.out w' q) Tryd.underlying31 rfl (by kernel_rfl)) (by assumption) ?_
      try simp only [List.getElem_toArray, List.getElem_cons_zero, List.getElem_cons_succ, Act.put, List.setIfInBounds_toArray, List.set_cons_zero, List.set_cons_succ]
      refine wpAnyH_ready (rs := [1]) (by kernel_rfl) (by simp) ?_
      refine AllReadyH.cons rfl (fun K hK => ?_) AllReadyH.nil
      go_simp
      (go_at_call 29; (with_reducible refine (CF.out _).mono ?_); rintro e u1 ⟨rfl, hbq⟩; have hb1' := below_step hHeld hbq; have hq := hb1'; clear hbq)
      go_wp2_with fail
      refine hK.out _ _ ?_ (fun hHeldN => ?_)
      · (try dsimp only); (first | (with_reducible exact below_step (by assumption) hb1') | (repeat' (first | (with_reducible exact Below.refl _ _) | (with_reducible assumption) | (with_reducible exact Below.size (by assumption)) | (with_reducible refine Below.drew ?_))))
      clear hK K hHeld
      try clear hb1' hq
      have hHeld := hHeldN
      clear hHeldN
      try simp only [List.getElem_toArray, List.getElem_cons_zero, List.getElem_cons_succ, Act.put, List.setIfInBounds_toArray, List.set_cons_zero, List.set_cons_succ]
      refine wpAnyH_ready (rs := [3]) (by kernel_rfl) (by simp) ?_
      refine AllReadyH.cons rfl (fun K hK => ?_) AllReadyH.nil
      go_simp
      (go_at_call 18; (with_reducible refine (DF.out _ hHeld).mono ?_); rintro e u1 ⟨bs, os, cs1, rfl, hlt, hrg, hbq⟩; have HRG := Lib.hid (fun w' (q : Below u1.heap.size u1 w') => rangeAt_below hrg q hlt); have hb1' := below_step hHeld hbq; have hq := hb1'; clear hbq hlt hrg)
      go_wp2_with fail
      refine hK.out _ _ ?_ (fun hHeldN => ?_)
      · (try dsimp only); (first | (with_reducible exact below_step (by assumption) hb1') | (repeat' (first | (with_reducible exact Below.refl _ _) | (with_reducible assumption) | (with_reducible exact Below.size (by assumption)) | (with_reducible refine Below.drew ?_))))
      clear hK K hHeld
      try clear hb1' hq
      have hHeld := hHeldN
      clear hHeldN
      try simp only [List.getElem_toArray, List.getElem_cons_zero, List.getElem_cons_succ, Act.put, List.setIfInBounds_toArray, List.set_cons_zero, List.set_cons_succ]
      refine wpAnyH_take (i := 4) (v := ?_) rfl (by kernel_rfl) (by kernel_rfl) (by kernel_rfl) (fun _ _ _ h => h) (Or.inl ⟨by rfl, ?_⟩) (by assumption) ?_
      rotate_left
      · (intro w hSw; (try dsimp only at hSw); go_simp; first | done | with_reducible rfl)
      try simp only [List.getElem_toArray, List.getElem_cons_zero, List.getElem_cons_succ, Act.put, List.setIfInBounds_toArray, List.set_cons_zero, List.set_cons_succ]
      refine wpAnyH_take (i := 5) (v := ?_) rfl (by kernel_rfl) (by kernel_rfl) (by kernel_rfl) (fun _ _ _ h => h) (Or.inl ⟨by rfl, ?_⟩) (by assumption) ?_
      rotate_left
      · (intro w hSw; (try dsimp only at hSw); go_simp; first | done | with_reducible rfl)
      try simp only [List.getElem_toArray, List.getElem_cons_zero, List.getElem_cons_succ, Act.put, List.setIfInBounds_toArray, List.set_cons_zero, List.set_cons_succ]
      refine wpAnyH_take (i := 6) (v := ?_) rfl (by kernel_rfl) (by kernel_rfl) (by kernel_rfl) (fun _ _ _ h => h) (Or.inl ⟨by rfl, ?_⟩) (by assumption) ?_
      rotate_left
      · (intro w hSw; (try dsimp only at hSw); go_simp; first | done | with_reducible rfl)
      try simp only [List.getElem_toArray, List.getElem_cons_zero, List.getElem_cons_succ, Act.put, List.setIfInBounds_toArray, List.set_cons_zero, List.set_cons_succ]
      refine wpAnyH_take (i := 7) (v := ?_) rfl (by kernel_rfl) (by kernel_rfl) (by kernel_rfl) (fun _ _ _ h => h) (Or.inl ⟨by rfl, ?_⟩) (by assumption) ?_
      rotate_left
      · (intro w hSw; (try dsimp only at hSw); go_simp; first | done | with_reducible rfl)
      try simp only [List.getElem_toArray, List.getElem_cons_zero, List.getElem_cons_succ, Act.put, List.setIfInBounds_toArray, List.set_cons_zero, List.set_cons_succ]
      refine wpAnyH_take (i := 8) (v := ?_) rfl (by kernel_rfl) (by kernel_rfl) (by kernel_rfl) (fun _ _ _ h => h) (Or.inl ⟨by rfl, ?_⟩) (by assumption) ?_
      rotate_left
      · (intro w hSw; (try dsimp only at hSw); go_simp; first | done | with_reducible rfl)
      try simp only [List.getElem_toArray, List.getElem_cons_zero, List.getElem_cons_succ, Act.put, List.setIfInBounds_toArray, List.set_cons_zero, List.set_cons_succ]
      refine wpAnyH_done (by kernel_rfl) ?_ _
      rename_i hcur
      go_wp2_with fail
      go_meet
      exact ⟨_, _, _, rfl, rfl, HRG, Lib.hid hHeld⟩
    case rest =>
    obtain ⟨bs, os, cs1, rfl, rfl, HRS, HBX⟩ := hcut
    have HHX := Lib.hid (RHV.out _ HBX.out)
    have HBW := Lib.hid (below_step HV.out HBX.out)
    have HNB := Lib.hid (HBW.out.alloc HBW.out.size (.cells h.vals.toArray 31))
    have HNK := Lib.hid (Blk.new wc 31 h.vals.toArray)
    have HNS := Lib.hid (fun w' (q : Below (wc.alloc (.cells h.vals.toArray 31)).heap.size (wc.alloc (.cells h.vals.toArray 31)) w') => HRS.out w' (below_step ((Below.refl wc.heap.size wc).alloc (Nat.le_refl _) _) q))
    have HGT := Lib.hid HBW.out.size
    have HLS := Lib.hid (rangeAt_lt (HRS.out wc (Below.refl _ _)) (by simp [Hdr.vals]))
    go_upto_region 17 with (first
      | (refine wpList_load_mid rfl 31 (.tmp 5) rfl w.heap.size 0 rfl h.vals _ HHX.out Tryd.underlying31 rfl (by kernel_rfl) ?_)
      | (refine wpList_store_new rfl 31 (.tmp 20) (.tmp 96) rfl wc.heap.size _ _ h.vals rfl rfl rfl rfl (by kernel_rfl) (vals_one h) ?_)
      | fail)
    refine wp_gen (fun X => Below w.heap.size w X ∧ Blk X wc.heap.size 31 h.vals.toArray ∧ X.rangeAt bs os (withH h 0 (port % 256)).vals) ⟨HNB.out, HNK.out, HNS.out _ (Below.refl _ _)⟩ ?_
    rintro X ⟨hX, hkX, hrX⟩
    try simp only [Act.put, List.setIfInBounds_toArray, List.set_cons_zero, List.set_cons_succ]
    have fz : X.frozen? ⟨wc.heap.size, 0, none⟩ = false := hkX.free 0
    have cz : X.cell? ⟨wc.heap.size, 0, none⟩ = some (.int .i64 h.port) := hkX.cell 0
    have hand := and_255 port
    have HY : Hid (Below w.heap.size w (X.setCell ⟨wc.heap.size, 0, none⟩ (.int .i64 (port % 256))) ∧ Blk (X.setCell ⟨wc.heap.size, 0, none⟩ (.int .i64 (port % 256))) wc.heap.size 31 (withH h 0 (port % 256)).vals.toArray ∧ (X.setCell ⟨wc.heap.size, 0, none⟩ (.int .i64 (port % 256))).rangeAt bs os (withH h 0 (port % 256)).vals) := Lib.hid ⟨below_grown hX (grownBy_setCell _ _ _ _) HGT.out, hkX.set_ (cs := h.vals) 0 (.int .i64 (port % 256)), rangeAt_block hrX ((grownBy_setCell X wc.heap.size 0 (.int .i64 (port % 256))).block bs (by have := hX.size; have := hkX.lt; have := HLS.out; omega) (fun e => by cases e; exact absurd HLS.out (Nat.lt_irrefl _)))⟩
    clear hX hkX hrX HNB HNK HNS
    go_upto_region 18 with fail
    refine wp_gen (fun X => Below w.heap.size w X ∧ Blk X wc.heap.size 31 (withH h 0 (port % 256)).vals.toArray ∧ X.rangeAt bs os (withH h 0 (port % 256)).vals) HY.out ?_
    rintro Y ⟨hY, hkY, hrY⟩
    try simp only [Act.put, List.setIfInBounds_toArray, List.set_cons_zero, List.set_cons_succ]
    have HYB := Lib.hid hY
    have QW := Lib.hid (fun w' (q : Below Y.heap.size Y w') => (hkY.below q hkY.lt).range)
    have QS := Lib.hid (fun w' (q : Below Y.heap.size Y w') => rangeAt_below hrY q (rangeAt_lt hrY (by simp [Hdr.vals])))
    obtain ⟨z, hz⟩ : ∃ z, z = withH h 0 (port % 256) := ⟨_, rfl⟩
    rw [← hz] at QW QS
    have HEQ : Hid (∀ w, (binOp .eql 31 (.agg z.vals.toArray) (.agg z.vals.toArray)).run Tryd.prog w = .ok (.bool true) w) := Lib.hid fun w => by rw [eql_hdr, (eqHB_iff z z).2 rfl]
    have hYY : Below Y.heap.size Y Y := Below.refl _ _
    clear hY hkY hrY HY fz cz hz
    as_aux_lemma =>
    refine wp_region_held_drew (S := (fun w' => Below Y.heap.size Y w')) (by kernel_rfl) ?_ (fun hHeld => ?_)
    · (try dsimp only); (first | (with_reducible exact below_step (by assumption) hb1') | (repeat' (first | (with_reducible exact Below.refl _ _) | (with_reducible assumption) | (with_reducible exact Below.size (by assumption)) | (with_reducible refine Below.drew ?_))))
    refine wpAnyH_take (i := 0) (v := ?_) rfl (by kernel_rfl) (by kernel_rfl) (by kernel_rfl) (fun _ _ _ h => h) (Or.inl ⟨by rfl, ?_⟩) (by assumption) ?_
    rotate_left
    · (intro w hSw; (try dsimp only at hSw); go_simp; first | done | with_reducible rfl)
    try simp only [List.getElem_toArray, List.getElem_cons_zero, List.getElem_cons_succ, Act.put, List.setIfInBounds_toArray, List.set_cons_zero, List.set_cons_succ]
    refine wpAnyH_take (i := 1) (v := ?_) rfl (by kernel_rfl) (by kernel_rfl) (by kernel_rfl) (fun _ _ _ h => h) (Or.inl ⟨by rfl, ?_⟩) (by assumption) ?_
    rotate_left
    · (intro w hSw; (try dsimp only at hSw); go_simp; first | done | with_reducible rfl)
    try simp only [List.getElem_toArray, List.getElem_cons_zero, List.getElem_cons_succ, Act.put, List.setIfInBounds_toArray, List.set_cons_zero, List.set_cons_succ]
    refine wpAnyH_take (i := 2) (v := ?_) rfl (by kernel_rfl) (by kernel_rfl) (by kernel_rfl) (fun _ _ _ h => h) (Or.inl ⟨by rfl, ?_⟩) (by assumption) ?_
    rotate_left
    · (intro w hSw; (try dsimp only at hSw); go_simp; first | done | with_reducible rfl)
    try simp only [List.getElem_toArray, List.getElem_cons_zero, List.getElem_cons_succ, Act.put, List.setIfInBounds_toArray, List.set_cons_zero, List.set_cons_succ]
    refine wpAnyH_take (i := 3) (v := ?_) rfl (by kernel_rfl) (by kernel_rfl) (by kernel_rfl) (fun _ _ _ h => h) (Or.inl ⟨by rfl, ?_⟩) (by assumption) ?_
    rotate_left
    · (intro w hSw; (try dsimp only at hSw); go_simp; first | done | with_reducible rfl)
    try simp only [List.getElem_toArray, List.getElem_cons_zero, List.getElem_cons_succ, Act.put, List.setIfInBounds_toArray, List.set_cons_zero, List.set_cons_succ]
    refine wpAnyH_take (i := 4) (v := ?_) rfl (by kernel_rfl) (by kernel_rfl) (by kernel_rfl) (fun _ _ _ h => h) (Or.inl ⟨by rfl, ?_⟩) (by assumption) ?_
    rotate_left
    · (intro w hSw; (try dsimp only at hSw); go_simp; first | done | with_reducible rfl)
    try simp only [List.getElem_toArray, List.getElem_cons_zero, List.getElem_cons_succ, Act.put, List.setIfInBounds_toArray, List.set_cons_zero, List.set_cons_succ]
    refine wpAnyH_take (i := 5) (v := ?_) rfl (by kernel_rfl) (by kernel_rfl) (by kernel_rfl) (fun _ _ _ h => h) (Or.inl ⟨by rfl, ?_⟩) (by assumption) ?_
    rotate_left
    · (intro w hSw; (try dsimp only at hSw); go_simp; first | done | with_reducible rfl)
    try simp only [List.getElem_toArray, List.getElem_cons_zero, List.getElem_cons_succ, Act.put, List.setIfInBounds_toArray, List.set_cons_zero, List.set_cons_succ]
    refine wpAnyH_take (i := 6) (v := ?_) rfl (by kernel_rfl) (by kernel_rfl) (by kernel_rfl) (fun _ _ _ h => h) (Or.inl ⟨by rfl, ?_⟩) (by assumption) ?_
    rotate_left
    · (intro w hSw; (try dsimp only at hSw); go_simp; first | done | with_reducible rfl)
    try simp only [List.getElem_toArray, List.getElem_cons_zero, List.getElem_cons_succ, Act.put, List.setIfInBounds_toArray, List.set_cons_zero, List.set_cons_succ]
    refine wpAnyH_take (i := 7) (v := ?_) rfl (by kernel_rfl) (by kernel_rfl) (by kernel_rfl) (fun _ _ _ h => h) (Or.inl ⟨by rfl, ?_⟩) (by assumption) ?_
    rotate_left
    · (intro w hSw; (try dsimp only at hSw); go_simp; first | done | with_reducible rfl)
    try simp only [List.getElem_toArray, List.getElem_cons_zero, List.getElem_cons_succ, Act.put, List.setIfInBounds_toArray, List.set_cons_zero, List.set_cons_succ]
    refine wpAnyH_take (i := 8) (v := ?_) rfl (by kernel_rfl) (by kernel_rfl) (by kernel_rfl) (fun _ _ _ h => h) (Or.inl ⟨by rfl, ?_⟩) (by assumption) ?_
    rotate_left
    · (intro w hSw; (try dsimp only at hSw); go_simp; first | done | with_reducible rfl)
    try simp only [List.getElem_toArray, List.getElem_cons_zero, List.getElem_cons_succ, Act.put, List.setIfInBounds_toArray, List.set_cons_zero, List.set_cons_succ]
    refine wpAnyH_take (i := 9) (v := ?_) rfl (by kernel_rfl) (by kernel_rfl) (by kernel_rfl) (fun _ _ _ h => h) (Or.inl ⟨by rfl, ?_⟩) (by assumption) ?_
    rotate_left
    · (intro w hSw; (try dsimp only at hSw); go_simp; first | done | with_reducible rfl)
    try simp only [List.getElem_toArray, List.getElem_cons_zero, List.getElem_cons_succ, Act.put, List.setIfInBounds_toArray, List.set_cons_zero, List.set_cons_succ]
    refine wpAnyH_take (i := 10) (v := _) rfl (by kernel_rfl) (by kernel_rfl) (by kernel_rfl) (fun _ _ _ h => h) (yieldsIf_load_mid (by rfl) _ _ rfl _ _ rfl z.vals _ (fun w' q => QS.out w' q) Tryd.underlying31 rfl (by kernel_rfl)) (by assumption) ?_
    try simp only [List.getElem_toArray, List.getElem_cons_zero, List.getElem_cons_succ, Act.put, List.setIfInBounds_toArray, List.set_cons_zero, List.set_cons_succ]
    refine wpAnyH_take (i := 11) (v := _) rfl (by kernel_rfl) (by kernel_rfl) (by kernel_rfl) (fun _ _ _ h => h) (yieldsIf_load_mid (by rfl) _ _ rfl _ _ rfl z.vals _ (fun w' q => QW.out w' q) Tryd.underlying31 rfl (by kernel_rfl)) (by assumption) ?_
    try simp only [List.getElem_toArray, List.getElem_cons_zero, List.getElem_cons_succ, Act.put, List.setIfInBounds_toArray, List.set_cons_zero, List.set_cons_succ]
    refine wpAnyH_take (i := 12) (v := _) rfl (by kernel_rfl) (by kernel_rfl) (by kernel_rfl) (fun _ _ _ h => h) (yields_eqv (by rfl) .eql _ _ _ _ rfl z.vals.toArray z.vals.toArray rfl rfl (.bool true) (by kernel_rfl) HEQ.out) (by assumption) ?_
    try simp only [List.getElem_toArray, List.getElem_cons_zero, List.getElem_cons_succ, Act.put, List.setIfInBounds_toArray, List.set_cons_zero, List.set_cons_succ]
    refine wpAnyH_take (i := 13) (v := ?_) rfl (by kernel_rfl) (by kernel_rfl) (by kernel_rfl) (fun _ _ _ h => h) (Or.inl ⟨by rfl, ?_⟩) (by assumption) ?_
    rotate_left
    · (intro w hSw; (try dsimp only at hSw); go_simp; first | done | with_reducible rfl)
    try simp only [List.getElem_toArray, List.getElem_cons_zero, List.getElem_cons_succ, Act.put, List.setIfInBounds_toArray, List.set_cons_zero, List.set_cons_succ]
    refine wpAnyH_take (i := 14) (v := ?_) rfl (by kernel_rfl) (by kernel_rfl) (by kernel_rfl) (fun _ _ _ h => h) (Or.inl ⟨by rfl, ?_⟩) (by assumption) ?_
    rotate_left
    · (intro w hSw; (try dsimp only at hSw); go_simp; first | done | with_reducible rfl)
    try simp only [List.getElem_toArray, List.getElem_cons_zero, List.getElem_cons_succ, Act.put, List.setIfInBounds_toArray, List.set_cons_zero, List.set_cons_succ]
    refine wpAnyH_done (by kernel_rfl) ?_ _
    go_wp2_with fail
    go_ret
    exact ⟨rfl, HYB.out.drew⟩
end Go.Proofs.YtjeligbgcofaeaaDoor
