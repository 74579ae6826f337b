/- rules.List: Run, Total. -/
import Derived.Test.YtjeligbgcofaeaaDoorRuK
import Derived.Test.YtjeligbgcofaeaaDoorHdJ
namespace Go.Proofs.YtjeligbgcofaeaaDoor
open Go.RowKit Go.Sort Go.Shelf
set_option linter.unusedVariables false
set_option linter.unusedSimpArgs false

theorem RuleD.sl_at {w : World} {L : Nat} {rs : List RuleD} (h : RulesAt w L rs) {i : Nat} {r : RuleD} (hr : rs[i]? = some r) (hg : r.Good) : w.cell? ⟨L, i * 19 + 18, none⟩ = some r.sl := by
  refine h i r hr 18 r.sl ?_
  unfold RuleD.cells
  rw [List.getElem?_append_right (by rw [hg.mlen]; omega), hg.mlen]
  rfl
set_option maxRecDepth 100000 in
set_option maxHeartbeats 1000000 in
theorem list_Run (w : World) (F : Nat → Prop) (L n c i m cc : Nat) (A : Option Addr) (rs : List RuleD) (r : RuleD) (acts : List OAct) (h : OHdr) (hT : Tab w) (hn : n = rs.length) (hm : n ≤ 1048576) (hr : ∀ r ∈ rs, r.Good) (hL : L < w.heap.size) (hat : RulesAt w L rs)
    (hix : ixB (rs.map fun r => hitsB r.mv r.ms h.1) 0 = (i : Int)) (hri : rs[i]? = some r) (hsl : r.sl = .slice A m cc) (hl : listR 10 actO w F [.slice A m cc] acts) (hF : InF F w) (hmm : m ≤ 1048576) :
    Calls Tryd.prog 37 #[.slice (some ⟨L, 0, none⟩) n c, .agg h.1.vals.toArray] w fun e w' => ∃ v, e = .returned v ∧ ownH w' F (w.heap.size + 1) v (compactK eqO (sortO (acts.map (applyO h))) m) ∧ Below w.heap.size w w' := by
  obtain ⟨ic, hic, hc0, hc1, hc2⟩ := info_parts hdr_info
  have hb : Below w.heap.size w (w.alloc (.cells h.1.vals.toArray 31)) := (Below.refl _ _).alloc (Nat.le_refl _) _
  have HX : Hid (Below w.heap.size w (w.alloc (.cells h.1.vals.toArray 31)) ∧ Blk (w.alloc (.cells h.1.vals.toArray 31)) w.heap.size 31 h.1.vals.toArray ∧ (w.alloc (.cells h.1.vals.toArray 31)).heap.size = w.heap.size + 1) := Lib.hid ⟨hb, Blk.new w _ _, by simp⟩
  have HFI := Lib.hid (fun W (q : Below w.heap.size w W) => list_Find W L n c rs h.1 (hT.below q) hn hm hr (Nat.lt_of_lt_of_le hL q.size) (fun k r hk => rangeAt_below (hat k r hk) q hL) h.2.fits)
  simp only [hix] at HFI
  have hil : i < n := by rw [hn]; exact (List.getElem?_eq_some_iff.1 hri).1
  have hsc := RuleD.sl_at hat hri (hr r (List.mem_of_getElem? hri))
  rw [hsl] at hsc
  have SC := Lib.hid (fun W (q : Below w.heap.size w W) => (show W.cell? ⟨L, i * 19 + 18, none⟩ = some (.slice A m cc) from (q.cell (p := ⟨L, i * 19 + 18, none⟩) hL).trans hsc))
  have HT := Lib.hid hT
  have HLS := Lib.hid hl
  have HFF := Lib.hid hF
  have HML := Lib.hid hl.len.1
  have hi0 : (0 : Int) ≤ (i : Int) := by omega
  have hi1 : (i : Int) < (n : Int) := by omega
  have hi2 : decide ((i : Int) < 0) = false := decide_eq_false (by omega)
  clear hb hT hn hm hr hat hix hri hsl hl hF hsc
  go_enter Tryd.func37, Tryd.ntmps37
  go_upto_region 1 with fail
  refine wp_gen (fun W => Below w.heap.size w W ∧ Blk W w.heap.size 31 h.1.vals.toArray ∧ W.heap.size = w.heap.size + 1) HX.out ?_
  rintro W ⟨hW, hk1, hsz⟩
  have HSZ := Lib.hid hsz
  have HW := Lib.hid hW
  have RH := Lib.hid (fun w' (q : Below W.heap.size W w') => (hk1.below q hk1.lt).range)
  have RN := Lib.hid hk1.range
  clear hW hk1 HX hsz
  go_upto_region 5 with (first
    | (refine wpList_load_mid rfl 31 (.tmp 3) rfl w.heap.size 0 rfl h.1.vals _ RN.out Tryd.underlying31 rfl (by kernel_rfl) ?_)
    | (go_at_call 54; (with_reducible refine (HFI.out _ HW.out).mono ?_); rintro e u ⟨rfl, hb⟩; have HU := Lib.hid hb; clear hb)
    | fail)
  have hsu := SC.out _ (below_step HW.out HU.out)
  go_wp2_with fail
  go_loopw [20, 6] (fun i v wr => ∃ (k : Nat) (A1 : Option Addr) (n1 c1 : Nat), k ≤ m ∧ i = .int .i64 k ∧ v = .slice A1 n1 c1 ∧ Hid (ownH wr F (w.heap.size + 1) (.slice A1 n1 c1) ((acts.take k).map (applyO h))) ∧ Hid (Below W.heap.size W wr)) (fun i _ _ => m - (intOf i).toNat)
  case atStart => exact ⟨0, none, 0, 0, Nat.zero_le _, rfl, rfl, Lib.hid ownR.nil, HU⟩
  case round =>
    obtain ⟨k, A1, n1, c1, hk, rfl, rfl, HO, HB⟩ := hrel
    clear hsu
    by_cases hlt : k < m
    · obtain ⟨a, b, off, hax, hA, hFb, hra⟩ := encR_at HLS.out hlt
      subst hA
      have RA := Lib.hid (rangeAt_below hra (below_step HW.out HB.out) (HFF.out b hFb))
      have HAX := Lib.hid hax
      have hk0 : (0 : Int) ≤ (k : Int) := by omega
      have hk1 : (k : Int) < (m : Int) := by omega
      have HV0 := Lib.hid ((Below.refl wr.heap.size wr).alloc (Nat.le_refl _) (.cells a.1.vals.toArray 25))
      have HK0 := Lib.hid (Blk.new wr 25 a.1.vals.toArray)
      clear hax hFb hra
      go_upto_region 8 with (first
        | (refine wpList_load_mid rfl 25 (.tmp 22) rfl b (off + k * 10) rfl a.1.vals _ RA.out Tryd.underlying25 rfl (by kernel_rfl) ?_)
        | (refine wpList_store_new rfl 25 (.tmp 8) (.tmp 23) rfl wr.heap.size _ _ a.1.vals rfl rfl rfl rfl (by kernel_rfl) (act_one a.1) ?_)
        | fail)
      refine wp_gen (fun V => Below wr.heap.size wr V ∧ Blk V wr.heap.size 25 a.1.vals.toArray) ⟨HV0.out, HK0.out⟩ ?_
      rintro V ⟨hV, hkV⟩
      have HV := Lib.hid hV
      have RV := Lib.hid hkV.range
      have HBV := Lib.hid (below_step HB.out hV)
      have RHV := Lib.hid (RH.out _ (below_step HB.out hV))
      have CA := Lib.hid (act_Apply a.1 h.1 V (HT.out.below (below_step HW.out (below_step HB.out hV))) a.2 h.2.fits)
      obtain ⟨y, hy⟩ : ∃ y, y = applyO h a := ⟨_, rfl⟩
      have hy1 : applyH a.1 h.1 = y.1 := by rw [hy]; rfl
      rw [hy1] at CA
      have HY := Lib.hid hy
      clear hV hkV HV0 HK0 hy hy1
      go_wp2_with (first
        | (refine wpList_load_mid rfl 25 (.tmp 8) rfl wr.heap.size 0 rfl a.1.vals _ RV.out Tryd.underlying25 rfl (by kernel_rfl) ?_)
        | (refine wpList_load_mid rfl 31 (.tmp 3) rfl w.heap.size 0 rfl h.1.vals _ RHV.out Tryd.underlying31 rfl (by kernel_rfl) ?_)
        | (go_at_call 12; (with_reducible refine CA.out.mono ?_); rintro e u ⟨rfl, hb⟩; have HU2 := Lib.hid hb; clear hb
           have HO2 := Lib.hid (((ownR.below hdrO_ok HO.out HV.out (fun b hb => Nat.lt_of_lt_of_le (HFF.out b hb) (below_step HW.out HB.out).size)).below hdrO_ok HU2.out (fun b hb => Nat.lt_of_lt_of_le (HFF.out b hb) (below_step HW.out HBV.out).size)).below hdrO_ok ((Below.refl u.heap.size u).alloc (Nat.le_refl _) (.cells y.1.vals.toArray 31)) (fun b hb => Nat.lt_of_lt_of_le (HFF.out b hb) (below_step HW.out (below_step HBV.out HU2.out)).size))
           have HB2 := Lib.hid ((below_step HBV.out HU2.out).alloc (below_step HBV.out HU2.out).size (.cells y.1.vals.toArray 31))
           have HF2 : Hid (InF F (u.alloc (.cells y.1.vals.toArray 31))) := Lib.hid (fun b hb => Nat.lt_of_lt_of_le (HFF.out b hb) (below_step HW.out HB2.out).size)
           have hnews := Lib.hid (cells_row_new u 31 y.1.vals)
           have hnewg : Hid (Groups hdrO (u.alloc (.cells y.1.vals.toArray 31)) F y.1.vals [y]) := Lib.hid (Groups.single rfl)
           have hlk : ((acts.take k).map (applyO h)).length ≤ k := by simp; omega
           have h63 : Hid (((acts.take k).map (applyO h)).length + 1 ≤ 9223372036854775807) := by show _ ≤ _; omega
           have h64 : Hid ((((acts.take k).map (applyO h)).length + 1) * 64 ≤ 140737488355328) := by show _ ≤ _; omega
           have hbase : Hid (w.heap.size + 1 ≤ (u.alloc (.cells y.1.vals.toArray 31)).heap.size) := Lib.hid (HSZ.out ▸ HB2.out.size)
           clear hlk)
        | (refine wpList_build_hdr rfl (.tmp 27) rfl y.1 rfl ?_)
        | (at_builtin; refine wpList_pushB _ rfl (.tmp 24) (.tmp 28) 47 rfl hdrO_ok (w.heap.size + 1) 31 ic _ 64 Tryd.underlying47 hic hc0 hc1 hc2 rfl (by decide) F _ _ rfl HO2.out ⟨u.heap.size, 0, none⟩ 1 1 y.1.vals [y] rfl rfl hnews.out hnewg.out HF2.out h63.out h64.out hbase.out ?_; intro v5 w5 hv5 hg5 hn5; have HG5 := Lib.hid hg5; have HN5 := Lib.hid hn5; obtain ⟨A5, c5, hq5⟩ := hv5.form; obtain ⟨N5, hN5⟩ : ∃ N, N = (((acts.take k).map (applyO h)) ++ [y]).length := ⟨_, rfl⟩; rw [← hN5] at hq5; subst hq5; have HV5 := Lib.hid (show ownH w5 F (w.heap.size + 1) (.slice A5 N5 c5) ((acts.take (k + 1)).map (applyO h)) by rw [take_snocK HAX.out, List.map_append, List.map_cons, List.map_nil, ← HY.out]; exact hv5); clear hv5 hg5 hn5 hN5)
        | fail)
      go_roundw
      case rel => exact ⟨k + 1, A5, N5, c5, by omega, by go_num, rfl, HV5, Lib.hid (below_grownK HB2.out HG5.out fun g hg => by
        rw [HSZ.out]
        exact (HO.out.lt g hg).1)⟩
      case measure => simp [intOf]; omega
    · obtain rfl : k = m := by omega
      have ho := HO.out
      rw [List.take_of_length_le (by rw [← HML.out]; omega)] at ho
      have hn1 : n1 = k := by
        obtain ⟨A2, c2, e⟩ := ho.form
        cases e
        rw [List.length_map, ← HML.out]
      subst hn1
      have CS := Lib.hid (ownH_Sort wr F (w.heap.size + 1) n1 c1 A1 _ (HT.out.below (below_step HW.out HB.out)) (by omega) ho (by omega))
      have HLB := Lib.hid (fun g hg => (ho.lt g hg).1)
      obtain ⟨ys, hys⟩ : ∃ ys, ys = sortO (acts.map (applyO h)) := ⟨_, rfl⟩
      have HYS := Lib.hid hys
      rw [← hys] at CS
      clear ho hys HO
      go_wp2_with (first
        | (go_at_call 55; (with_reducible refine CS.out.mono ?_); rintro e u1 ⟨rfl, ho1, hg1⟩; have CC := Lib.hid (ownH_Compact u1 F (w.heap.size + 1) n1 c1 A1 ys ho1 (by omega)); have HG1 := Lib.hid hg1; clear ho1 hg1)
        | (go_at_call 57; (with_reducible refine CC.out.mono ?_); rintro e u2 ⟨rfl, ho2, hg2⟩; have HO2 := Lib.hid ho2; have HG2 := Lib.hid hg2; clear ho2 hg2)
        | fail)
      go_ret
      exact ⟨_, rfl, by rw [← HYS.out]; exact HO2.out, below_step HW.out (below_grownK (below_grownK HB.out HG1.out fun g hg => by rw [HSZ.out]; exact HLB.out g hg) HG2.out fun g hg => by rw [HSZ.out]; exact HLB.out g hg)⟩
end Go.Proofs.YtjeligbgcofaeaaDoor
