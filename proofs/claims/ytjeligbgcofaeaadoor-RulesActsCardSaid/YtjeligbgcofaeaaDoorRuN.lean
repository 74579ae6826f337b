/- The example of the rules' laws. -/
import Derived.Test.YtjeligbgcofaeaaDoorRuM
namespace Go.Proofs.YtjeligbgcofaeaaDoor
open Go.RowKit Go.Sort Go.Shelf
set_option linter.unusedVariables false
set_option linter.unusedSimpArgs false

def h80 : Hdr := { zeroH with dp := 80 }
theorem h80_ok : h80.Ok := by
  refine ⟨⟨zeroH_ok.fits.port, zeroH_ok.fits.src, zeroH_ok.fits.dst, zeroH_ok.fits.typ, zeroH_ok.fits.sip, zeroH_ok.fits.dip, zeroH_ok.fits.proto, zeroH_ok.fits.sp, by unfold I64; simp [h80]⟩, by rfl⟩
theorem act2_right : act2.Right := by
  refine ⟨by simp [act2], by simp [act2], fun k hk => ?_, fun k hk e => ?_⟩
  · match k, hk with
    | 0, _ => exact ⟨by simp [act2, Act9.val], by show (2 : Int) ≤ (255 : Nat); omega⟩
    | 1, _ => exact ⟨by simp [act2, Act9.val], by simp [act2, Act9.val]⟩
    | 2, _ => exact ⟨by simp [act2, Act9.val], by simp [act2, Act9.val]⟩
    | 3, _ => exact ⟨by simp [act2, Act9.val], by simp [act2, Act9.val]⟩
    | 4, _ => exact ⟨by simp [act2, Act9.val], by simp [act2, Act9.val]⟩
    | 5, _ => exact ⟨by simp [act2, Act9.val], by simp [act2, Act9.val]⟩
    | 6, _ => exact ⟨by simp [act2, Act9.val], by simp [act2, Act9.val]⟩
    | 7, _ => exact ⟨by simp [act2, Act9.val], by simp [act2, Act9.val]⟩
    | 8, _ => exact ⟨by simp [act2, Act9.val], by simp [act2, Act9.val]⟩
  · match k, hk with
    | 0, _ => revert e; decide
    | 1, _ => rfl
    | 2, _ => rfl
    | 3, _ => rfl
    | 4, _ => rfl
    | 5, _ => rfl
    | 6, _ => rfl
    | 7, _ => rfl
    | 8, _ => rfl
def oact2 : OAct := ⟨act2, act2_right⟩
def oh80 : OHdr := ⟨h80, h80_ok⟩
def oh0 : OHdr := ⟨zeroH, zeroH_ok⟩
theorem ix0 (ab : Nat) : ixB ([r0 ab, r1].map fun r => hitsB r.mv r.ms oh80.1) 0 = ((0 : Nat) : Int) := by kernel_rfl
theorem ix1 (ab : Nat) : ixB ([r0 ab, r1].map fun r => hitsB r.mv r.ms oh0.1) 0 = ((1 : Nat) : Int) := by kernel_rfl
theorem acts_list {w : World} {ab : Nat} (h : Blk w ab 25 act2.vals.toArray) : listR 10 actO w (fun b => b = ab) [.slice (some ⟨ab, 0, none⟩) 1 1] [oact2] := by
  refine ⟨_, _, rfl, Nat.le_refl _, by simp [maxLen], fun k x hx => ?_⟩
  match k, hx with
  | 0, rfl => exact ⟨ab, 0, encA oact2, rfl, rfl, rfl, h.range⟩
theorem out1 : compactK eqO (sortO ([oact2].map (applyO oh80))) 1 = [applyO oh80 oact2] := by
  have e : sortO ([oact2].map (applyO oh80)) = [applyO oh80 oact2] := by simp [sortO]
  rw [e]
  rfl
theorem out0 : compactK eqO (sortO (([] : List OAct).map (applyO oh0))) 0 = [] := rfl
theorem port2 : (applyO oh80 oact2).1.port = 2 := by kernel_rfl
set_option maxRecDepth 100000 in
theorem run_first (w : World) (L ab : Nat) (hT : Tab w) (hab : Blk w ab 25 act2.vals.toArray) (h : Blk w L 83 (lsC ab).toArray) :
    Calls Tryd.prog 37 #[.slice (some ⟨L, 0, none⟩) 2 2, .agg h80.vals.toArray] w fun e w' => ∃ g c, e = .returned (.slice (some ⟨g, 0, none⟩) 1 c) ∧ w'.cell? ⟨g, 0, none⟩ = some (.int .i64 2) ∧ Below w.heap.size w w' := by
  refine (list_Run w (fun b => b = ab) L 2 2 0 1 1 (some ⟨ab, 0, none⟩) [r0 ab, r1] (r0 ab) [oact2] oh80 hT rfl (by omega) (fun r hr => ?_) h.lt (rules_at h) (ix0 ab) rfl rfl (acts_list hab) (fun b hb => by subst hb; exact hab.lt) (by omega)).mono ?_
  · rcases List.mem_cons.1 hr with rfl | hr
    · exact r0_good ab
    · rcases List.mem_cons.1 hr with rfl | hr
      · exact r1_good
      · cases hr
  · rintro e w' ⟨v, rfl, ho, hb⟩
    rw [out1] at ho
    obtain ⟨A, c, rfl⟩ := ho.form
    cases A with
    | none =>
      have := (own_nilK ho).1
      cases this
    | some ad =>
      obtain ⟨g, T, rfl, _, _, hblk, _, _, _, _⟩ := own_blkK ho
      refine ⟨g, c, rfl, ?_, hb⟩
      rw [hblk.cell 0]
      show some (Value.int .i64 (applyO oh80 oact2).1.port) = _
      rw [port2]
theorem run_second (w : World) (L ab : Nat) (hT : Tab w) (h : Blk w L 83 (lsC ab).toArray) :
    Calls Tryd.prog 37 #[.slice (some ⟨L, 0, none⟩) 2 2, .agg zeroH.vals.toArray] w fun e w' => ∃ A c, e = .returned (.slice A 0 c) ∧ Below w.heap.size w w' := by
  refine (list_Run w (fun b => b = ab ∧ False) L 2 2 1 0 0 none [r0 ab, r1] r1 [] oh0 hT rfl (by omega) (fun r hr => ?_) h.lt (rules_at h) (ix1 ab) rfl rfl listR.nil (fun b hb => hb.2.elim) (by omega)).mono ?_
  · rcases List.mem_cons.1 hr with rfl | hr
    · exact r0_good ab
    · rcases List.mem_cons.1 hr with rfl | hr
      · exact r1_good
      · cases hr
  · rintro e w' ⟨v, rfl, ho, hb⟩
    rw [out0] at ho
    obtain ⟨A, c, rfl⟩ := ho.form
    exact ⟨A, c, rfl, hb⟩
set_option maxRecDepth 100000 in
set_option maxHeartbeats 4000000 in
theorem rules_example : EXA := fun w hT => by
  have CE := Lib.hid (fun W (q : Below w.heap.size w W) => mat_Exact80 W (hT.below q))
  have CO := Lib.hid (fun W (q : Below w.heap.size w W) => act_On2 W (hT.below q))
  have HT := Lib.hid hT
  obtain ⟨ms, hms⟩ : ∃ ms, ms = matC mv80 mk80 := ⟨_, rfl⟩
  have HMS := Lib.hid hms
  have h1 : Hid (∀ u ∈ ms, u.oneCell' = true) := Lib.hid (by rw [hms]; exact matC_one _ _)
  have hl : Hid (ms.length = 18) := Lib.hid (by rw [hms]; rfl)
  obtain ⟨a2, ha2⟩ : ∃ a2, a2 = act2 := ⟨_, rfl⟩
  have HA2 := Lib.hid ha2
  rw [← hms] at CE
  rw [← ha2] at CO
  clear hT hms ha2
  have hB0 : Below w.heap.size w w := Below.refl _ _
  have HB0 := Lib.hid hB0
  clear hB0
  go_enter Tryd.func9, Tryd.ntmps9
  go_upto_region 2 with (first
    | (go_at_call 35; (with_reducible refine (CE.out _ HB0.out).mono ?_); rintro e u ⟨rfl, hb⟩; have HB1 := Lib.hid (below_step HB0.out hb); clear hb)
    | (refine wpList_store_new rfl 76 (.tmp 1) (.tmp 9) rfl u.heap.size _ _ ms rfl rfl rfl (by rw [hl.out]; rfl) (by rw [hl.out]; kernel_rfl) h1.out ?_)
    | fail)
  refine wp_gen (fun W => Below w.heap.size w W ∧ Blk W u.heap.size 76 ms.toArray) ⟨HB1.out.alloc HB1.out.size _, Blk.new u _ _⟩ ?_
  rintro W2 ⟨hb2, hk2⟩
  have HB2 := Lib.hid hb2
  have HK2 := Lib.hid hk2
  clear hb2 hk2
  go_upto_region 3 with (first
    | (go_at_call 36; (with_reducible refine (CO.out _ HB2.out).mono ?_); rintro e u3 ⟨rfl, hb⟩; have HK3 := Lib.hid (HK2.out.below hb HK2.out.lt); have HB3 := Lib.hid (below_step HB2.out hb); clear hb)
    | (refine wpList_store_new rfl 25 (.tmp 3) (.tmp 13) rfl u3.heap.size _ _ a2.vals rfl rfl rfl rfl (by kernel_rfl) (act_one a2) ?_)
    | fail)
  refine wp_gen (fun W => Below w.heap.size w W ∧ W.rangeAt u.heap.size 0 ms ∧ W.rangeAt u3.heap.size 0 a2.vals) ⟨HB3.out.alloc HB3.out.size _, (HK3.out.below ((Below.refl _ _).alloc (Nat.le_refl _) _) HK3.out.lt).range, (Blk.new u3 25 a2.vals.toArray).range⟩ ?_
  rintro W3 ⟨hb3, hk3, hk4⟩
  have HB3' := Lib.hid hb3
  rw [HMS.out] at hk3
  rw [HA2.out] at hk4
  have RM := Lib.hid (show W3.rangeAt u.heap.size 0 [.int .u64 0, .int .u64 0, .int .u64 0, .int .u64 0, .int .u64 0, .int .u64 0, .int .u64 0, .int .u64 0, .int .u64 80, .int .u64 0, .int .u64 0, .int .u64 0, .int .u64 0, .int .u64 0, .int .u64 0, .int .u64 0, .int .u64 0, .int .u64 65535] from hk3)
  have RA := Lib.hid (show W3.rangeAt u3.heap.size 0 [.int .i64 1, .int .u64 2, .int .u64 0, .int .u64 0, .int .u64 0, .int .u64 0, .int .u64 0, .int .u64 0, .int .u64 0, .int .u64 0] from hk4)
  clear hb3 hk3 hk4
  go_upto_region 4 with (first
    | (refine wpList_load_mid rfl 76 (.tmp 1) rfl u.heap.size 0 rfl _ _ RM.out Tryd.underlying76 rfl (by kernel_rfl) ?_)
    | (refine wpList_load_mid rfl 25 (.tmp 3) rfl u3.heap.size 0 rfl _ _ RA.out Tryd.underlying25 rfl (by kernel_rfl) ?_)
    | fail)
  have hx : Below w.heap.size w ((W3.alloc (.cells act2.vals.toArray 25)).alloc (.cells (lsC W3.heap.size).toArray 83)) ∧ Blk ((W3.alloc (.cells act2.vals.toArray 25)).alloc (.cells (lsC W3.heap.size).toArray 83)) W3.heap.size 25 act2.vals.toArray ∧ Blk ((W3.alloc (.cells act2.vals.toArray 25)).alloc (.cells (lsC W3.heap.size).toArray 83)) (W3.heap.size + 1) 83 (lsC W3.heap.size).toArray := by
    have b1 := Blk.new W3 25 act2.vals.toArray
    have l1 := (Below.refl W3.heap.size W3).alloc (Nat.le_refl _) (.cells act2.vals.toArray 25)
    generalize hW1 : W3.alloc (.cells act2.vals.toArray 25) = W1 at b1 l1 ⊢
    have s1 : W1.heap.size = W3.heap.size + 1 := by rw [← hW1]; simp
    have b2 := Blk.new W1 83 (lsC W3.heap.size).toArray
    have l2 := (Below.refl W1.heap.size W1).alloc (Nat.le_refl _) (.cells (lsC W3.heap.size).toArray 83)
    rw [s1] at b2
    exact ⟨below_step HB3'.out (below_step l1 l2), b1.below l2 (by omega), b2⟩
  refine wp_gen (fun W => Below w.heap.size w W ∧ Blk W W3.heap.size 25 act2.vals.toArray ∧ Blk W (W3.heap.size + 1) 83 (lsC W3.heap.size).toArray) hx ?_
  rintro W4 ⟨hb4, k1, k2⟩
  have HB4 := Lib.hid hb4
  have HTW := Lib.hid (HT.out.below hb4)
  have KL := Lib.hid k2
  obtain ⟨L, hL⟩ : ∃ L, L = W3.heap.size + 1 := ⟨_, rfl⟩
  obtain ⟨ab, hab⟩ : ∃ ab, ab = W3.heap.size := ⟨_, rfl⟩
  rw [← hL, ← hab] at KL
  rw [← hab] at k1
  have C1 := Lib.hid (show Calls Tryd.prog 37 #[.slice (some ⟨L, 0, none⟩) 2 2, .agg #[.int .i64 0, .int .u8 0, .int .u8 0, .int .u8 0, .int .u8 0, .int .u8 0, .int .u8 0, .int .u8 0, .int .u8 0, .int .u8 0, .int .u8 0, .int .u8 0, .int .u8 0, .int .i64 0, .int .u32 0, .int .u32 0, .int .i64 0, .int .i64 0, .int .i64 80]] W4 _ from run_first W4 L ab HTW.out k1 KL.out)
  have C2 := Lib.hid (fun W (q : Below W4.heap.size W4 W) => (show Calls Tryd.prog 37 #[.slice (some ⟨L, 0, none⟩) 2 2, .agg #[.int .i64 0, .int .u8 0, .int .u8 0, .int .u8 0, .int .u8 0, .int .u8 0, .int .u8 0, .int .u8 0, .int .u8 0, .int .u8 0, .int .u8 0, .int .u8 0, .int .u8 0, .int .i64 0, .int .u32 0, .int .u32 0, .int .i64 0, .int .i64 0, .int .i64 0]] W _ from run_second W L ab (HTW.out.below q) (KL.out.below q KL.out.lt)))
  have C3 := Lib.hid (fun W (q : Below W4.heap.size W4 W) => list_Total W L ab _ (KL.out.below q KL.out.lt))
  rw [← hL]
  clear hb4 k1 k2 hx hL hab RM RA
  go_wp2_with (first
    | (go_at_call 37; (with_reducible refine C1.out.mono ?_); rintro e u5 ⟨g, c, rfl, hcg, hb⟩; have HB5 := Lib.hid hb; clear hb)
    | (go_at_call 37; (with_reducible refine (C2.out _ HB5.out).mono ?_); rintro e u6 ⟨A6, c6, rfl, hb⟩; have HB6 := Lib.hid (below_step HB5.out hb); clear hb)
    | (go_at_call 38; (with_reducible refine (C3.out _ HB6.out).mono ?_); rintro e u7 ⟨rfl, rfl⟩)
    | fail)
  go_ret
  exact ⟨rfl, below_step HB4.out HB6.out⟩
end Go.Proofs.YtjeligbgcofaeaaDoor
