/- The reference's Best. -/
import Derived.Test.YtngfabnkgpidjaaRefSt
namespace Go.Proofs.Ytngfabnkgpidjaa
open Go.RowKit
set_option linter.unusedVariables false
set_option linter.unusedSimpArgs false


set_option maxHeartbeats 4000000 in
theorem ref_Best (w : World) (F : Nat → Prop) (A : Option Addr) (n c : Nat) (rs : List RRoute) (hl : listR 7 rrouteR w F [.slice A n c] rs) (hF : InF F w) (hn : n ≤ 1048576) (hf : ∀ r ∈ rs, r.Fits) :
    Calls Try.prog 13 #[.slice A n c] w fun e w' => e = .returned (.int .i64 (refBestI rs)) ∧ Below w.heap.size w w' := by
  have HFit := Lib.hid hf
  have HN := Lib.hid hl.len.1
  have Hl := Lib.hid hl
  obtain ⟨i0, hi0, hz0, hz1, hz2⟩ := info_parts int_info
  clear hl hf
  go_enter Try.func13, Try.ntmps13
  go_wp2_with fail
  go_loopw [3, 4, 5, 6, 7, 8, 25] (fun v3 v4 v5 v6 v7 v8 i wr => ∃ k : Nat, k ≤ n ∧ i = .int .i64 k ∧ Owns wr w.heap.size 3 [v3, v4, v5, v6, v7, v8] [placeVs k, likesV (rs.take k), hopsV (rs.take k), originsV (rs.take k), idsV (rs.take k), peersV (rs.take k)] ∧ Below w.heap.size w wr) (fun _ _ _ _ _ _ i _ => n - (intOf i).toNat)
  case atStart =>
    refine ⟨0, Nat.zero_le _, rfl, ?_, ?_⟩
    · have := ((((((Owns.nil w w.heap.size 3).made (Nat.le_refl _)).made (by simp)).made (by simp; omega)).made (by simp; omega)).made (by simp; omega)).made (by simp; omega)
      simp only [World.size_alloc, List.nil_append, List.cons_append] at this
      exact this
    · exact ((((((Below.refl _ _).alloc (Nat.le_refl _) _).alloc (by simp) _).alloc (by simp; omega) _).alloc (by simp; omega) _).alloc (by simp; omega) _).alloc (by simp; omega) _
  case round =>
    obtain ⟨k, hk, rfl, hO, hB⟩ := hrel
    by_cases hlt : k < n
    · obtain ⟨r, hx⟩ : ∃ r, rs[k]? = some r := ⟨_, List.getElem?_eq_getElem (by rw [← HN.out]; exact hlt)⟩
      obtain ⟨b, off, cs, rfl, hFb, ⟨rfl, hft⟩, hr⟩ := Hl.out.at_ hx
      obtain ⟨l1, l2⟩ := cells_now (rangeAt_below hr hB (hF b hFb))
      simp only [RRoute.row] at l1 l2
      have hl0 := hft.loc.1
      have hl1 := hft.loc.2
      have hi0' := hft.id.1
      have hi1' := hft.id.2
      have HX := Lib.hid hx
      have S0 := Side.of hO hB 48 #[.int .i64 r.loc, .int .i64 r.hops, .int .i64 r.origin, .int .i64 r.first, .int .i64 r.med, .int .u32 r.id, .int .i64 r.peer]
      clear hr hx hft
      go_upto_region 10 with fail
      refine wp_gen (fun X => Side w X 3 wr.heap.size 48 #[.int .i64 r.loc, .int .i64 r.hops, .int .i64 r.origin, .int .i64 r.first, .int .i64 r.med, .int .u32 r.id, .int .i64 r.peer] [u3, u4, u5, u6, u7, u8] [placeVs k, likesV (rs.take k), hopsV (rs.take k), originsV (rs.take k), idsV (rs.take k), peersV (rs.take k)]) S0 ?_
      clear S0
      rintro X S0
      clear l1 l2 hO hB
      have k0 := S0.blk.cell
      go_wp2_with (at_builtin; refine wpList_push_own _ rfl (.tmp 30) (.tmp 32) _ rfl w.heap.size 3 i0 (.int .i64 0) 1 8 Try.underlying28 hi0 hz0 hz1 hz2 rfl (by decide) _ _ _ rfl ((S0.own.alloc _).own 0 _ _ rfl rfl) ⟨_, 0, none⟩ 1 1 [.int .i64 (k : Int)] rfl rfl ?c1 ?c2 ?c4 (by decide) ?c5 ?_)
      case c1 => exact cell_one_new _ _ _
      case c2 => simp [Value.oneCell']
      case c4 => simp [placeVs, likesV, hopsV, originsV, idsV, peersV]; omega
      case c5 => have := S0.below.size; simp; omega
      intro v0' w0 ho0 hg0 hr0
      have S1 := S0.push _ 0 rfl rfl hg0 ho0 hr0
      simp only [List.set_cons_zero, List.set_cons_succ] at S1
      clear k0 ho0 hg0 hr0
      have k1 := S1.blk.cell
      go_wp2_with (at_builtin; refine wpList_push_own _ rfl (.tmp 34) (.tmp 38) _ rfl w.heap.size 3 i0 (.int .i64 0) 1 8 Try.underlying28 hi0 hz0 hz1 hz2 rfl (by decide) _ _ _ rfl ((S1.own.alloc _).own 1 _ _ rfl rfl) ⟨_, 0, none⟩ 1 1 [.int .i64 (4294967296 - r.loc)] rfl rfl ?c1 ?c2 ?c4 (by decide) ?c5 ?_)
      case c1 => exact cell_one_new _ _ _
      case c2 => simp [Value.oneCell']
      case c4 => simp [placeVs, likesV, hopsV, originsV, idsV, peersV]; omega
      case c5 => have := S1.below.size; simp; omega
      intro v1' w1 ho1 hg1 hr1
      have S2 := S1.push _ 1 rfl rfl hg1 ho1 hr1
      simp only [List.set_cons_zero, List.set_cons_succ] at S2
      clear k1 ho1 hg1 hr1
      have k2 := S2.blk.cell
      go_wp2_with (at_builtin; refine wpList_push_own _ rfl (.tmp 40) (.tmp 43) _ rfl w.heap.size 3 i0 (.int .i64 0) 1 8 Try.underlying28 hi0 hz0 hz1 hz2 rfl (by decide) _ _ _ rfl ((S2.own.alloc _).own 2 _ _ rfl rfl) ⟨_, 0, none⟩ 1 1 [.int .i64 r.hops] rfl rfl ?c1 ?c2 ?c4 (by decide) ?c5 ?_)
      case c1 => exact cell_one_new _ _ _
      case c2 => simp [Value.oneCell']
      case c4 => simp [placeVs, likesV, hopsV, originsV, idsV, peersV]; omega
      case c5 => have := S2.below.size; simp; omega
      intro v2' w2 ho2 hg2 hr2
      have S3 := S2.push _ 2 rfl rfl hg2 ho2 hr2
      simp only [List.set_cons_zero, List.set_cons_succ] at S3
      clear k2 ho2 hg2 hr2
      have k3 := S3.blk.cell
      go_wp2_with (at_builtin; refine wpList_push_own _ rfl (.tmp 45) (.tmp 48) _ rfl w.heap.size 3 i0 (.int .i64 0) 1 8 Try.underlying28 hi0 hz0 hz1 hz2 rfl (by decide) _ _ _ rfl ((S3.own.alloc _).own 3 _ _ rfl rfl) ⟨_, 0, none⟩ 1 1 [.int .i64 r.origin] rfl rfl ?c1 ?c2 ?c4 (by decide) ?c5 ?_)
      case c1 => exact cell_one_new _ _ _
      case c2 => simp [Value.oneCell']
      case c4 => simp [placeVs, likesV, hopsV, originsV, idsV, peersV]; omega
      case c5 => have := S3.below.size; simp; omega
      intro v3' w3 ho3 hg3 hr3
      have S4 := S3.push _ 3 rfl rfl hg3 ho3 hr3
      simp only [List.set_cons_zero, List.set_cons_succ] at S4
      clear k3 ho3 hg3 hr3
      have k4 := S4.blk.cell
      go_wp2_with (at_builtin; refine wpList_push_own _ rfl (.tmp 50) (.tmp 54) _ rfl w.heap.size 3 i0 (.int .i64 0) 1 8 Try.underlying28 hi0 hz0 hz1 hz2 rfl (by decide) _ _ _ rfl ((S4.own.alloc _).own 4 _ _ rfl rfl) ⟨_, 0, none⟩ 1 1 [.int .i64 r.id] rfl rfl ?c1 ?c2 ?c4 (by decide) ?c5 ?_)
      case c1 => exact cell_one_new _ _ _
      case c2 => simp [Value.oneCell']
      case c4 => simp [placeVs, likesV, hopsV, originsV, idsV, peersV]; omega
      case c5 => have := S4.below.size; simp; omega
      intro v4' w4 ho4 hg4 hr4
      have S5 := S4.push _ 4 rfl rfl hg4 ho4 hr4
      simp only [List.set_cons_zero, List.set_cons_succ] at S5
      clear k4 ho4 hg4 hr4
      have k5 := S5.blk.cell
      go_wp2_with (at_builtin; refine wpList_push_own _ rfl (.tmp 56) (.tmp 59) _ rfl w.heap.size 3 i0 (.int .i64 0) 1 8 Try.underlying28 hi0 hz0 hz1 hz2 rfl (by decide) _ _ _ rfl ((S5.own.alloc _).own 5 _ _ rfl rfl) ⟨_, 0, none⟩ 1 1 [.int .i64 r.peer] rfl rfl ?c1 ?c2 ?c4 (by decide) ?c5 ?_)
      case c1 => exact cell_one_new _ _ _
      case c2 => simp [Value.oneCell']
      case c4 => simp [placeVs, likesV, hopsV, originsV, idsV, peersV]; omega
      case c5 => have := S5.below.size; simp; omega
      intro v5' w5 ho5 hg5 hr5
      have S6 := S5.push _ 5 rfl rfl hg5 ho5 hr5
      simp only [List.set_cons_zero, List.set_cons_succ] at S6
      clear k5 ho5 hg5 hr5
      go_wp2_with fail
      go_roundw
      case rel =>
        refine ⟨k + 1, by omega, by go_num, ?_, S6.below⟩
        have := S6.own
        rw [places_snoc]
        simp only [likesV, hopsV, originsV, idsV, peersV, map_snoc HX.out] at this ⊢
        exact this
      case measure => simp [intOf]; omega
    · obtain rfl : n = k := by omega
      have hnr : n = rs.length := HN.out
      have hO2 := hO
      rw [List.take_of_length_le (by omega)] at hO2
      obtain ⟨VA, VC, e3⟩ := own_val (hO2.own 0 _ _ rfl rfl)
      rw [show (placeVs n).length = n by simp [placeVs]] at e3
      subst e3
      by_cases hz : n = 0
      · have hrs : rs = [] := List.eq_nil_of_length_eq_zero (by omega)
        subst hz
        have Hrs := Lib.hid hrs
        clear hO hO2 hnr hrs
        go_wp2_with fail
        go_ret
        exact ⟨by rw [Hrs.out]; rfl, hB⟩
      have hS := six_start hO2 hnr hn hz HFit.out hB
      have HS := Lib.hid hS
      have hzd : ((n : Int) == 0) = false := beq_eq_false_iff_ne.2 (by omega)
      clear hO hO2 hS hnr
      go_wp2_with fail
      refine (keep_step w _ _ n _ u4 _ (likesI rs) _ HS.out hn (by simp)).mono ?_
      rintro e w1 ⟨x1, F1, rfl, hS1⟩
      have HS1 := Lib.hid hS1
      clear hS1
      go_wp2_with fail
      refine (keep_step w _ _ n _ u5 _ (hopsI rs) _ HS1.out hn (by simp)).mono ?_
      rintro e w2 ⟨x2, F2, rfl, hS2⟩
      have HS2 := Lib.hid hS2
      clear hS2
      go_wp2_with fail
      refine (keep_step w _ _ n _ u6 _ (originsI rs) _ HS2.out hn (by simp)).mono ?_
      rintro e w3 ⟨x3, F3, rfl, hS3⟩
      have HS3 := Lib.hid hS3
      obtain ⟨A3, C3, rfl⟩ := hS3.rowR.val
      obtain ⟨L, hL⟩ : ∃ L, L = keepL (originsI rs) (keepL (hopsI rs) (keepL (likesI rs) (List.range n))) := ⟨_, rfl⟩
      rw [← hL] at hS3
      rw [List.length_map, ← hL]
      have HL := Lib.hid hL
      have hLr := hS3.rowR
      rw [List.length_map] at hLr
      have HLr := Lib.hid hLr
      have HIn := Lib.hid hS3.inF
      have HLt := Lib.hid hS3.lt
      have hB3 := hS3.below
      have HS3' := Lib.hid hS3
      have hmn : L.length ≤ n := hS3.len
      obtain ⟨m, hm⟩ : ∃ m, L.length = m := ⟨_, rfl⟩
      have HM := Lib.hid hm
      rw [hm] at hmn ⊢
      clear hS3 hL hLr hm HS3 HS2 HS1 HS
      go_wp2_with fail
      go_loopw [11, 77] (fun v i wr => ∃ k : Nat, k ≤ m ∧ i = .int .i64 k ∧ wr.ownsRow w3.heap.size 3 1 v ((L.take k).filter (someP rs L)).length (((L.take k).filter (someP rs L)).map placeV) ∧ Below w3.heap.size w3 wr) (fun _ i _ => m - (intOf i).toNat)
      case atStart => exact ⟨0, Nat.zero_le _, rfl, own_made1 w3 _ _, (Below.refl _ _).alloc (Nat.le_refl _) _⟩
      case round =>
        obtain ⟨k, hk, rfl, hown, hB4⟩ := hrel
        by_cases hlt : k < m
        · obtain ⟨i, hx⟩ : ∃ i, L[k]? = some i := ⟨_, List.getElem?_eq_getElem (by rw [HM.out]; exact hlt)⟩
          have him : i < n := HLt.out i (List.mem_of_getElem? hx)
          obtain ⟨b, off, cs, he, hFb, ⟨rfl, _⟩, hr⟩ := HLr.out.at_ (k := k) (x := placeI i) (by rw [List.getElem?_map, hx]; rfl)
          subst he
          obtain ⟨y, hy⟩ : ∃ y, rs[i]? = some y := ⟨_, List.getElem?_eq_getElem (by rw [← HN.out]; exact him)⟩
          obtain ⟨b2, off2, cs2, he2, hFb2, ⟨rfl, _⟩, hr2⟩ := Hl.out.at_ hy
          subst he2
          have C0 : wr.cell? ⟨b, off + k, none⟩ = some (.int .i64 (i : Int)) := by
            have := (hB4.cell (p := ⟨b, off + k * 1, none⟩) (HIn.out b hFb)).trans (hr 0 _ rfl)
            rwa [Nat.mul_one] at this
          have hfl : ((L.take k).filter (someP rs L)).length ≤ m := by
            have h1 := List.length_filter_le (someP rs L) (L.take k)
            have h2 : (L.take k).length ≤ k := by rw [List.length_take]; omega
            omega
          obtain ⟨fl, hfe⟩ : ∃ fl, ((L.take k).filter (someP rs L)).length = fl := ⟨_, rfl⟩
          have HFE := Lib.hid hfe
          rw [hfe] at hown hfl
          obtain ⟨VA2, VC2, rfl⟩ := own_val hown
          have HX := Lib.hid hx
          have HY := Lib.hid hy
          have HR2 := Lib.hid hr2
          have Hown := Lib.hid hown
          obtain ⟨fi, hfi⟩ : ∃ fi, y.first = fi := ⟨_, rfl⟩
          obtain ⟨mi, hmi⟩ : ∃ mi, y.med = mi := ⟨_, rfl⟩
          have HFI := Lib.hid hfi
          have HMI := Lib.hid hmi
          clear hr hr2 hx hy hown hfe hfi hmi
          obtain ⟨wo, rfl⟩ : ∃ wo : World, wo = wr := ⟨_, rfl⟩
          go_wp2_with fail
          go_loopw [14, 83] (fun f j w2 => ∃ (q : Nat) (fb : Bool), q ≤ m ∧ j = .int .i64 q ∧ f = .bool fb ∧ Hid (fb = (L.take q).all fun t => !(rFirst rs t == fi && decide (rMed rs t < mi))) ∧ Hid (w2.ownsRow w3.heap.size 3 1 (.slice VA2 fl VC2) fl (((L.take k).filter (someP rs L)).map placeV)) ∧ Below w3.heap.size w3 w2) (fun _ i _ => m - (intOf i).toNat)
          case atStart => exact ⟨0, true, Nat.zero_le _, rfl, rfl, Lib.hid rfl, Hown, hB4⟩
          case round =>
            obtain ⟨q, fb, hq, rfl, rfl, HFB, Hown2, hB5⟩ := hrel
            by_cases hlt2 : q < m
            · obtain ⟨t, hx2⟩ : ∃ t, L[q]? = some t := ⟨_, List.getElem?_eq_getElem (by rw [HM.out]; exact hlt2)⟩
              have htm : t < n := HLt.out t (List.mem_of_getElem? hx2)
              obtain ⟨b3, off3, cs3, he3, hFb3, ⟨rfl, _⟩, hr3⟩ := HLr.out.at_ (k := q) (x := placeI t) (by rw [List.getElem?_map, hx2]; rfl)
              obtain ⟨rfl, rfl⟩ : b = b3 ∧ off = off3 := by simp only [Option.some.injEq, Addr.mk.injEq] at he3; exact ⟨he3.1, he3.2.1⟩
              obtain ⟨z, hz'⟩ : ∃ z, rs[t]? = some z := ⟨_, List.getElem?_eq_getElem (by rw [← HN.out]; exact htm)⟩
              obtain ⟨b4, off4, cs4, he4, hFb4, ⟨rfl, _⟩, hr4⟩ := Hl.out.at_ hz'
              obtain ⟨rfl, rfl⟩ : b2 = b4 ∧ off2 = off4 := by simp only [Option.some.injEq, Addr.mk.injEq] at he4; exact ⟨he4.1, he4.2.1⟩
              have hBw := below_step hB3 hB5
              have C1 : wr.cell? ⟨b, off + q, none⟩ = some (.int .i64 (t : Int)) := by
                have := (hB5.cell (p := ⟨b, off + q * 1, none⟩) (HIn.out b hFb)).trans (hr3 0 _ rfl)
                rwa [Nat.mul_one] at this
              have D1 : wr.cell? ⟨b2, off2 + t * 7 + 3, none⟩ = some (.int .i64 z.first) := (hBw.cell (p := ⟨b2, off2 + t * 7 + 3, none⟩) (hF b2 hFb2)).trans (hr4 3 _ rfl)
              have D2 : wr.cell? ⟨b2, off2 + t * 7 + 4, none⟩ = some (.int .i64 z.med) := (hBw.cell (p := ⟨b2, off2 + t * 7 + 4, none⟩) (hF b2 hFb2)).trans (hr4 4 _ rfl)
              have D3 : wr.cell? ⟨b2, off2 + i * 7 + 3, none⟩ = some (.int .i64 fi) := by
                rw [← HFI.out]
                exact (hBw.cell (p := ⟨b2, off2 + i * 7 + 3, none⟩) (hF b2 hFb2)).trans (HR2.out 3 _ rfl)
              have D4 : wr.cell? ⟨b2, off2 + i * 7 + 4, none⟩ = some (.int .i64 mi) := by
                rw [← HMI.out]
                exact (hBw.cell (p := ⟨b2, off2 + i * 7 + 4, none⟩) (hF b2 hFb2)).trans (HR2.out 4 _ rfl)
              have HSn := Lib.hid (all_snoc (p := fun t => !(rFirst rs t == fi && decide (rMed rs t < mi))) hx2)
              have HZ1 := Lib.hid (show rFirst rs t = z.first by simp [rFirst, hz'])
              have HZ2 := Lib.hid (show rMed rs t = z.med by simp [rMed, hz'])
              obtain ⟨ft, hft⟩ : ∃ ft, z.first = ft := ⟨_, rfl⟩
              obtain ⟨mt, hmt⟩ : ∃ mt, z.med = mt := ⟨_, rfl⟩
              rw [hft] at D1 HZ1
              rw [hmt] at D2 HZ2
              clear hr3 hr4 he3 he4 hx2 hz' C0 hft hmt hBw
              cases hc1 : (ft == fi)
              · have HC1 := Lib.hid hc1
                go_wp2_with fail
                go_quiet (fail)
                go_wp2_with fail
                go_roundw
                case rel => exact ⟨q + 1, fb, by omega, by go_num, rfl, Lib.hid (by rw [HSn.out, ← HFB.out, HZ1.out, HC1.out]; simp), Lib.hid (Hown2.out.kept (grownBy_of_below (below_dn2 (Below.refl _ _) _)) (own_ne _)), below_dn2 hB5 _⟩
                case measure => simp [intOf]; omega
              · have HC1 := Lib.hid hc1
                cases hc2 : decide (mt < mi)
                · have HC2 := Lib.hid hc2
                  go_wp2_with fail
                  go_quiet (fail)
                  go_wp2_with fail
                  go_roundw
                  case rel => exact ⟨q + 1, fb, by omega, by go_num, rfl, Lib.hid (by rw [HSn.out, ← HFB.out, HZ1.out, HZ2.out, HC1.out, HC2.out]; simp), Lib.hid (Hown2.out.kept (grownBy_of_below (below_dn2 (Below.refl _ _) _)) (own_ne _)), below_dn2 hB5 _⟩
                  case measure => simp [intOf]; omega
                · have HC2 := Lib.hid hc2
                  go_wp2_with fail
                  go_quiet (fail)
                  go_wp2_with fail
                  go_roundw
                  case rel => exact ⟨q + 1, false, by omega, by go_num, rfl, Lib.hid (by rw [HSn.out, HZ1.out, HZ2.out, HC1.out, HC2.out]; simp), Lib.hid (Hown2.out.kept (grownBy_of_below (below_dn2 (Below.refl _ _) _)) (own_ne _)), below_dn2 hB5 _⟩
                  case measure => simp [intOf]; omega
            · have hqn : q = m := by omega
              have HK := Lib.hid (show fb = someP rs L i by
                have h1 := HFB.out
                rw [List.take_of_length_le (by have := HM.out; omega)] at h1
                rw [h1, someP, show rFirst rs i = fi by rw [← HFI.out]; simp [rFirst, HY.out], show rMed rs i = mi by rw [← HMI.out]; simp [rMed, HY.out]])
              have hown3 := Hown2.out
              cases fb
              · go_wp2_with fail
                go_roundw
                case rel => exact ⟨k + 1, by omega, by go_num, by rw [fil_no HX.out HK.out.symm, HFE.out]; exact hown3, hB5⟩
                case measure => simp [intOf]; omega
              · go_wp2_with (at_builtin; refine wpList_append_own _ rfl (.tmp 113) (.tmp 115) _ rfl w3.heap.size 3 i0 (.int .i64 0) 1 8 Try.underlying28 hi0 hz0 hz1 hz2 rfl (by decide) _ _ _ rfl (hown3.alloc _) ⟨wr.heap.size, 0, none⟩ 1 1 [.int .i64 (i : Int)] rfl rfl ?c1 ?c2 ?c3 ?c4 ?c5 ?_)
                case c1 => exact cell_one_new _ _ _
                case c2 => simp [Value.oneCell']
                case c3 => simp only [maxLen]; omega
                case c4 => omega
                case c5 => have := hB5.size; simp; omega
                intro v6 w6 hown6 hg6 _
                have hB6 : Below w3.heap.size w3 w6 := (hB5.alloc hB5.size _).grown hg6 (by have := hB5.size; simp; omega) (fun g hgg => (hown3.lt g hgg).1)
                go_wp2_with fail
                go_roundw
                case rel => exact ⟨k + 1, by omega, by go_num, by rw [fil_yes HX.out HK.out.symm, List.length_append, HFE.out, List.map_append]; exact hown6, hB6⟩
                case measure => simp [intOf]; omega
        · have hkm : k = m := by omega
          have hs5 : RefSt w wr _ n _ (someL rs L) _ := HS3'.out.next hn (by
            have h1 := hown
            rw [List.take_of_length_le (by have := HM.out; omega)] at h1
            exact h1) hB4 (fun i hi => HLt.out i (List.mem_filter.1 hi).1) (someL_ne HS3'.out.ne) (Nat.le_trans (List.length_filter_le _ _) HS3'.out.len)
          have HS5 := Lib.hid hs5
          clear hs5 hown
          go_wp2_with fail
          refine (keep_step w _ _ n _ u7 _ (idsI rs) _ HS5.out hn (by simp)).mono ?_
          rintro e w7 ⟨x7, F7, rfl, hS7⟩
          have HS7 := Lib.hid hS7
          clear hS7
          go_wp2_with fail
          refine (keep_step w _ _ n _ u8 _ (peersI rs) _ HS7.out hn (by simp)).mono ?_
          rintro e w8 ⟨x8, F8, rfl, hS8⟩
          obtain ⟨j, r, hj⟩ : ∃ j r, keepL (peersI rs) (keepL (idsI rs) (someL rs L)) = j :: r := by
            rcases hq : keepL (peersI rs) (keepL (idsI rs) (someL rs L)) with _ | ⟨j, r⟩
            · exact absurd hq hS8.ne
            · exact ⟨j, r, rfl⟩
          obtain ⟨A8, C8, rfl⟩ := hS8.rowR.val
          have hR8 := hS8.rowR
          have hl8 : (List.map placeI (keepL (peersI rs) (keepL (idsI rs) (someL rs L)))).length = r.length + 1 := by rw [hj]; simp
          obtain ⟨b, off, cs, he, hFb, ⟨rfl, _⟩, hr⟩ := hR8.at_ (k := 0) (x := placeI j) (by rw [hj]; rfl)
          subst he
          have c8 := hr 0 _ rfl
          simp only [Nat.zero_mul, Nat.add_zero] at c8
          rw [hl8]
          have hB8 := hS8.below
          have HJ := Lib.hid (show refBestI rs = (j : Int) by
            have h1 := HL.out
            rw [HN.out] at h1
            rw [refBestI, refBestL, ← h1, hj])
          clear hr hR8 hl8 hS8 hj
          go_wp2_with fail
          go_ret
          exact ⟨ret_int (by rw [HJ.out]; rfl), hB8⟩
end Go.Proofs.Ytngfabnkgpidjaa
