/- policy.Node.run: it returns just runN. -/
import Derived.Test.YtjeligbgcofaeaaDoorPoF
namespace Go.Proofs.YtjeligbgcofaeaaDoor
open Go.RowKit
set_option linter.unusedVariables false
set_option linter.unusedSimpArgs false

def RunC (n : Nat) : Prop := ∀ (x : Nd) (cs : List Value) (w : World) (F : Nat → Prop) (h : OHdr), Tab w → InF F w → nodeR n w F cs x → goodR x = true →
  Calls Tryd.prog 43 #[.agg cs.toArray, .agg h.1.vals.toArray] w fun e w' => ∃ v, e = .returned (.tuple #[v, .bool (runN x h).2]) ∧ Hs w' v (runN x h).1 ∧ Below w.heap.size w w'
theorem nodeR_val {n : Nat} {w : World} {F : Nat → Prop} {cs : List Value} {x : Nd} (h : nodeR n w F cs x) : 0 ≤ x.val := by
  cases n with
  | zero => exact h.elim
  | succ n =>
    obtain ⟨sl, _, hf, _⟩ := h
    exact hf.val.1
/-- what every branch of run knows -/
structure RunW (w W : World) (k f v m : Int) (A : Option Addr) (nk c : Nat) (h : OHdr) : Prop where
  below : Below w.heap.size w W
  node : Blk W w.heap.size 45 #[.int .i64 k, .int .i64 f, .int .u64 v, .int .u64 m, .slice A nk c]
  hdr : Blk W (w.heap.size + 1) 31 h.1.vals.toArray
theorem ret_run {v : Value} {r R : List OHdr × Bool} {w : World} {b : Bool} (hs : Hs w v r.1) (hb : r.2 = b) (e : r = R) : ∃ v', Ending.returned (.tuple #[v, .bool b]) = Ending.returned (.tuple #[v', .bool R.2]) ∧ Hs w v' R.1 := by
  subst e
  subst hb
  exact ⟨v, rfl, hs⟩
set_option maxRecDepth 100000 in
set_option maxHeartbeats 8000000 in
theorem node_run_step (n : Nat) (IH : RunC n) (k f v m : Int) (ks : List Nd) (A : Option Addr) (nk c : Nat) (w : World) (F : Nat → Prop) (h : OHdr) (hT : Tab w) (hF : InF F w) (hv : 0 ≤ v) (hl : listR 5 (nodeR n) w F [.slice A nk c] ks) (hgo : goodR (.mk k f v m ks) = true) :
    Calls Tryd.prog 43 #[.agg #[.int .i64 k, .int .i64 f, .int .u64 v, .int .u64 m, .slice A nk c], .agg h.1.vals.toArray] w fun e w' => ∃ v', e = .returned (.tuple #[v', .bool (runN (.mk k f v m ks) h).2]) ∧ Hs w' v' (runN (.mk k f v m ks) h).1 ∧ Below w.heap.size w w' := by
  have HX : Hid (RunW w ((w.alloc (.cells #[.int .i64 k, .int .i64 f, .int .u64 v, .int .u64 m, .slice A nk c] 45)).alloc (.cells h.1.vals.toArray 31)) k f v m A nk c h) := by
    have b1 := Blk.new w 45 #[.int .i64 k, .int .i64 f, .int .u64 v, .int .u64 m, .slice A nk c]
    have l1 := (Below.refl w.heap.size w).alloc (Nat.le_refl _) (.cells #[.int .i64 k, .int .i64 f, .int .u64 v, .int .u64 m, .slice A nk c] 45)
    generalize hW1 : w.alloc (.cells #[.int .i64 k, .int .i64 f, .int .u64 v, .int .u64 m, .slice A nk c] 45) = W1 at b1 l1 ⊢
    have s1 : W1.heap.size = w.heap.size + 1 := by rw [← hW1]; simp
    have b2 := Blk.new W1 31 h.1.vals.toArray
    have l2 := (Below.refl W1.heap.size W1).alloc (Nat.le_refl _) (.cells h.1.vals.toArray 31)
    rw [s1] at b2
    exact Lib.hid ⟨below_step l1 l2, b1.below l2 (by omega), b2⟩
  rw [goodR] at hgo
  have HGO := Lib.hid hgo
  have HT := Lib.hid hT
  have HF := Lib.hid hF
  have HLS := Lib.hid hl
  have HLEN := Lib.hid hl.len
  have hnk : (nk : Int) ≤ 9223372036854775807 := by have := hl.len.2; unfold maxLen at this; omega
  obtain ⟨R, hR⟩ : ∃ R, R = runN (.mk k f v m ks) h := ⟨_, rfl⟩
  rw [← hR]
  rw [runN] at hR
  have HR := Lib.hid hR
  clear hT hF hl hgo hR
  go_enter Tryd.func43, Tryd.ntmps43
  go_upto_region 1 with fail
  refine wp_gen (fun W => RunW w W k f v m A nk c h) HX.out ?_
  rintro W hWW
  have HRW := Lib.hid hWW
  have HW := Lib.hid hWW.below
  have HTW := Lib.hid (HT.out.below hWW.below)
  have RH := Lib.hid (fun w' (q : Below W.heap.size W w') => (hWW.hdr.below q hWW.hdr.lt).range)
  have c0 : W.cell? ⟨w.heap.size, 0, none⟩ = some (.int .i64 k) := hWW.node.cell 0
  have c1 : W.cell? ⟨w.heap.size, 1, none⟩ = some (.int .i64 f) := hWW.node.cell 1
  have c2 : W.cell? ⟨w.heap.size, 2, none⟩ = some (.int .u64 v) := hWW.node.cell 2
  have c4 : W.cell? ⟨w.heap.size, 4, none⟩ = some (.slice A nk c) := hWW.node.cell 4
  have e4 : ∀ w', Below W.heap.size W w' → w'.cell? ⟨w.heap.size, 4, none⟩ = some (.slice A nk c) := fun w' q => (hWW.node.below q hWW.node.lt).cell 4
  have hHeld : Below W.heap.size W W := Below.refl _ _
  have HKID := Lib.hid (fun W2 (q : Below W.heap.size W W2) (x : Nd) (cs : List Value) (hnr : nodeR n w F cs x) (hg : goodR x = true) (g : OHdr) => IH x cs W2 F g (HTW.out.below q) (fun b hb => Nat.lt_of_lt_of_le (HF.out b hb) (below_step HW.out q).size) (nodeR_below hnr HF.out (below_step HW.out q)) hg)
  have HHOLD := Lib.hid (fun W2 (q : Below W.heap.size W W2) (x : Nd) (cs : List Value) (hnr : nodeR n w F cs x) (hg : fOk x = true) => node_Holds n x cs W2 F h.1 (HTW.out.below q) (fun b hb => Nat.lt_of_lt_of_le (HF.out b hb) (below_step HW.out q).size) (nodeR_below hnr HF.out (below_step HW.out q)) hg h.2.fits)
  clear hWW HX
  by_cases h12 : k = 12
  · subst h12
    have E : Hid (([h], true) = R) := Lib.hid (by rw [HR.out, if_pos rfl])
    have HB1 := Lib.hid (HW.out.alloc HW.out.size (.cells h.1.vals.toArray 31))
    have HS1 := Lib.hid (Hs.one h (Blk.new W 31 h.1.vals.toArray))
    as_aux_lemma =>
    go_wp2_with (first
      | (refine wpList_load_mid rfl 31 (.tmp 3) rfl (w.heap.size + 1) 0 rfl h.1.vals _ (RH.out _ hHeld) Tryd.underlying31 rfl (by kernel_rfl) ?_)
      | (refine wpList_build_hdr rfl (.tmp 25) rfl h.1 rfl ?_)
      | fail)
    go_ret2
    obtain ⟨v', e', hs'⟩ := ret_run (r := ([h], true)) HS1.out rfl E.out
    exact ⟨v', e', hs', HB1.out⟩
  have q12 : (k == 12) = false := by simpa using h12
  by_cases h13 : k = 13
  · subst h13
    have hgo : goodFil ks = true := by have := HGO.out; rw [if_pos rfl] at this; exact this
    have hR1 : R = runFil ks h := by rw [HR.out, if_neg (by omega), if_pos rfl]
    obtain ⟨p, hks⟩ : ∃ p, ks = [p] := by
      match ks, hgo with
      | [], e => rw [goodFil] at e; cases e; intro p hp; cases hp
      | [p], _ => exact ⟨p, rfl⟩
      | p :: q :: r, e => rw [goodFil] at e; cases e; intro p hp; cases hp
    have hlen1 := HLEN.out.1
    rw [hks] at hgo hR1 hlen1
    have hn1 : nk = 1 := hlen1
    rw [goodFil] at hgo
    rw [runFil] at hR1
    obtain ⟨x, b, off, cs, hx, hA, hFb, hnr, hrg, hcl⟩ := kid_at HLS.out (i := 0) (by omega)
    rw [hks] at hx
    obtain rfl : p = x := by simpa using hx
    subst hA
    have RG := Lib.hid (fun w' (q : Below W.heap.size W w') => rangeAt_below hrg (below_step HW.out q) (HF.out b hFb))
    have HCL := Lib.hid hcl
    have CH := Lib.hid (fun W2 (q : Below W.heap.size W W2) => HHOLD.out W2 q p cs hnr hgo)
    simp only [Nat.zero_mul, Nat.add_zero] at RG
    obtain ⟨t, ht⟩ : ∃ t, t = holdsN p h.1 := ⟨_, rfl⟩
    rw [← ht] at CH hR1
    have HR1 := Lib.hid hR1
    clear hx hFb hnr hrg hcl ht hgo hks hlen1 hR1
    subst hn1
    have d0 : ((0 : Nat) : Int) < 1 := by omega
    go_upto_region 5 with fail
    go_cut [34] (fun s wx => s = .bool t ∧ Below W.heap.size W wx)
    case first =>
      as_aux_lemma =>
      refine wp_region_held_drew (S := (fun w' => Below W.heap.size W w')) (by kernel_rfl) ?_ (fun hHeld => ?_)
      · (try dsimp only); (first | (with_reducible exact below_step (by assumption) hb1') | (repeat' (first | (with_reducible exact Below.refl _ _) | (with_reducible assumption) | (with_reducible exact Below.size (by assumption)) | (with_reducible refine Below.drew ?_))))
      refine wpAnyH_take (i := 0) (v := ?_) rfl (by kernel_rfl) (by kernel_rfl) (by kernel_rfl) (fun _ _ _ h => h) (Or.inl ⟨by rfl, ?_⟩) (by assumption) ?_
      rotate_left
      · (intro w hSw; (try dsimp only at hSw); go_simp; first | done | with_reducible rfl)
      try simp only [List.getElem_toArray, List.getElem_cons_zero, List.getElem_cons_succ, Act.put, List.setIfInBounds_toArray, List.set_cons_zero, List.set_cons_succ]
      refine wpAnyH_take (i := 1) (v := ?_) rfl (by kernel_rfl) (by kernel_rfl) (by kernel_rfl) (fun _ _ _ h => h) (Or.inl ⟨by rfl, ?_⟩) (by assumption) ?_
      rotate_left
      · (intro w hSw; (try dsimp only at hSw); go_simp; first | done | with_reducible rfl)
      try simp only [List.getElem_toArray, List.getElem_cons_zero, List.getElem_cons_succ, Act.put, List.setIfInBounds_toArray, List.set_cons_zero, List.set_cons_succ]
      refine wpAnyH_take (i := 2) (v := ?_) rfl (by kernel_rfl) (by kernel_rfl) (by kernel_rfl) (fun _ _ _ h => h) (Or.inl ⟨by rfl, ?_⟩) (by assumption) ?_
      rotate_left
      · (intro w hSw; (try dsimp only at hSw); go_simp; first | done | with_reducible rfl)
      try simp only [List.getElem_toArray, List.getElem_cons_zero, List.getElem_cons_succ, Act.put, List.setIfInBounds_toArray, List.set_cons_zero, List.set_cons_succ]
      refine wpAnyH_take (i := 3) (v := _) rfl (by kernel_rfl) (by kernel_rfl) (by kernel_rfl) (fun _ _ _ h => h) (yieldsIf_load_mid (by rfl) _ _ rfl _ _ rfl cs _ (fun w' q => RG.out w' q) Tryd.underlying45 rfl (by rw [HCL.out]; kernel_rfl)) (by assumption) ?_
      try simp only [List.getElem_toArray, List.getElem_cons_zero, List.getElem_cons_succ, Act.put, List.setIfInBounds_toArray, List.set_cons_zero, List.set_cons_succ]
      refine wpAnyH_take (i := 4) (v := _) rfl (by kernel_rfl) (by kernel_rfl) (by kernel_rfl) (fun _ _ _ h => h) (yieldsIf_load_mid (by rfl) _ _ rfl _ _ rfl h.1.vals _ (fun w' q => RH.out w' q) Tryd.underlying31 rfl (by kernel_rfl)) (by assumption) ?_
      try simp only [List.getElem_toArray, List.getElem_cons_zero, List.getElem_cons_succ, Act.put, List.setIfInBounds_toArray, List.set_cons_zero, List.set_cons_succ]
      refine wpAnyH_ready (rs := [5]) (by kernel_rfl) (by simp) ?_
      refine AllReadyH.cons rfl (fun K hK => ?_) AllReadyH.nil
      go_simp
      (go_at_call 33; (with_reducible refine (CH.out _ hHeld).mono ?_); rintro e u1 ⟨rfl, hbq⟩; have hb1' := below_step hHeld hbq; have hq := hb1'; clear hbq)
      go_wp2_with fail
      refine hK.out _ _ ?_ (fun hHeldN => ?_)
      · (try dsimp only); (first | (with_reducible exact below_step (by assumption) hb1') | (repeat' (first | (with_reducible exact Below.refl _ _) | (with_reducible assumption) | (with_reducible exact Below.size (by assumption)) | (with_reducible refine Below.drew ?_))))
      clear hK K hHeld
      try clear hb1' hq
      have hHeld := hHeldN
      clear hHeldN
      try simp only [List.getElem_toArray, List.getElem_cons_zero, List.getElem_cons_succ, Act.put, List.setIfInBounds_toArray, List.set_cons_zero, List.set_cons_succ]
      refine wpAnyH_done (by kernel_rfl) ?_ _
      go_wp2_with fail
      go_meet
      exact ⟨rfl, by assumption⟩
    case rest =>
    obtain ⟨rfl, hB⟩ := hcut
    clear hHeld
    have hHeld := hB
    have HB1 := Lib.hid ((below_step HW.out hB).alloc (below_step HW.out hB).size (.cells h.1.vals.toArray 31))
    have HB0 := Lib.hid (below_step HW.out hB)
    have HS1 := Lib.hid (Hs.one h (Blk.new wc 31 h.1.vals.toArray))
    cases t
    · have E : Hid (([], true) = R) := Lib.hid (by rw [HR1.out]; rfl)
      go_wp2_with fail
      go_ret2
      obtain ⟨v', e', hs'⟩ := ret_run (r := ([], true)) (Hs.nil wc) rfl E.out
      exact ⟨v', e', hs', HB0.out⟩
    · have E : Hid (([h], true) = R) := Lib.hid (by rw [HR1.out]; rfl)
      go_wp2_with (first
        | (refine wpList_load_mid rfl 31 (.tmp 3) rfl (w.heap.size + 1) 0 rfl h.1.vals _ (RH.out _ hHeld) Tryd.underlying31 rfl (by kernel_rfl) ?_)
        | (refine wpList_build_hdr rfl (.tmp 35) rfl h.1 rfl ?_)
        | fail)
      go_ret2
      obtain ⟨v', e', hs'⟩ := ret_run (r := ([h], true)) HS1.out rfl E.out
      exact ⟨v', e', hs', HB1.out⟩
  have q13 : (k == 13) = false := by simpa using h13
  by_cases h14 : k = 14
  · subst h14
    have hgo : (decide (0 ≤ f) && decide (f < 9) && decide (v ≤ fullI f)) = true := by have := HGO.out; rw [if_neg (by omega), if_pos rfl] at this; exact this
    simp only [Bool.and_eq_true, decide_eq_true_eq] at hgo
    obtain ⟨⟨hf0, hf9⟩, hvf⟩ := hgo
    obtain ⟨j, rfl⟩ : ∃ j : Nat, f = j := ⟨f.toNat, by omega⟩
    have hj : j < 9 := by omega
    have hfi : fullI (j : Int) = fullN j := by unfold fullI; rw [if_pos (by omega)]; rfl
    rw [hfi] at hvf
    have CW := Lib.hid (fun W2 (q : Below W.heap.size W W2) => hd_WithOk h.1 j v W2 (HTW.out.below q) h.2.fits hj hv hvf)
    obtain ⟨y, hy⟩ : ∃ y, y = withO h (j : Int) v := ⟨_, rfl⟩
    have hy1 : withH h.1 j v = y.1 := by rw [hy, withO_val hj hv hvf]
    rw [hy1] at CW
    have E : Hid (([y], true) = R) := Lib.hid (by rw [HR.out, if_neg (by omega), if_neg (by omega), if_pos rfl, hy])
    clear hy hy1 hfi
    go_upto_region 9 with (first
      | (refine wpList_load_mid rfl 31 (.tmp 3) rfl (w.heap.size + 1) 0 rfl h.1.vals _ (RH.out _ hHeld) Tryd.underlying31 rfl (by kernel_rfl) ?_)
      | (go_at_call 28; (with_reducible refine (CW.out _ hHeld).mono ?_); rintro e u ⟨rfl, hb⟩; have HU := Lib.hid (below_step hHeld hb); clear hb)
      | (refine wpList_store_new rfl 31 (.tmp 6) (.tmp 46) rfl u.heap.size _ _ y.1.vals rfl rfl rfl rfl (by kernel_rfl) (vals_one y.1) ?_)
      | fail)
    refine wp_gen (fun V => Below W.heap.size W V ∧ Blk V u.heap.size 31 y.1.vals.toArray) ⟨HU.out.alloc HU.out.size _, Blk.new u _ _⟩ ?_
    rintro V ⟨hV, hkV⟩
    have RV := Lib.hid hkV.range
    have HB1 := Lib.hid ((below_step HW.out hV).alloc (below_step HW.out hV).size (.cells y.1.vals.toArray 31))
    have HS1 := Lib.hid (Hs.one y (Blk.new V 31 y.1.vals.toArray))
    clear hV hkV
    go_wp2_with (first
      | (refine wpList_load_mid rfl 31 (.tmp 6) rfl u.heap.size 0 rfl y.1.vals _ RV.out Tryd.underlying31 rfl (by kernel_rfl) ?_)
      | (refine wpList_build_hdr rfl (.tmp 48) rfl y.1 rfl ?_)
      | fail)
    go_ret2
    obtain ⟨v', e', hs'⟩ := ret_run (r := ([y], true)) HS1.out rfl E.out
    exact ⟨v', e', hs', HB1.out⟩
  have q14 : (k == 14) = false := by simpa using h14
  clear c1 c2
  by_cases h15 : k = 15
  · subst h15
    have HGS := Lib.hid (goodRs_all (show goodRs ks = true by have := HGO.out; rw [if_neg (by omega), if_neg (by omega), if_pos (by omega)] at this; exact this))
    have HR1 : Hid (R = runPar (ks.drop 0) h []) := Lib.hid (by rw [HR.out, if_neg (by omega), if_neg (by omega), if_neg (by omega), if_pos rfl]; rfl)
    go_wp2_with fail
    go_loopw [55, 8] (fun i o wr => ∃ (k' : Nat) (xs : List OHdr), k' ≤ nk ∧ i = .int .i64 k' ∧ Hid (Hs wr o xs) ∧ Hid (xs.length ≤ 64) ∧ Hid (R = runPar (ks.drop k') h xs) ∧ Hid (Below W.heap.size W wr)) (fun i _ _ => nk - (intOf i).toNat)
    case atStart => exact ⟨0, [], Nat.zero_le _, rfl, Lib.hid (Hs.nil _), Lib.hid (by simp), HR1, Lib.hid hHeld⟩
    case round =>
      obtain ⟨k', xs, hk', rfl, HXS, HXL, HS, HB⟩ := hrel
      clear HR1 c0 c4 hHeld
      by_cases hlt : k' < nk
      · obtain ⟨x, b, off, cs, hx, hA, hFb, hnr, hrg, hcl⟩ := kid_at HLS.out hlt
        subst hA
        have RG := Lib.hid (rangeAt_below hrg (below_step HW.out HB.out) (HF.out b hFb))
        have HCL := Lib.hid hcl
        have HONE := Lib.hid ((nodeR_ok n).one hnr)
        have HKX := Lib.hid (Blk.new wr 45 cs.toArray)
        have HVX := Lib.hid ((Below.refl wr.heap.size wr).alloc (Nat.le_refl _) (.cells cs.toArray 45))
        have hk0' : (0 : Int) ≤ (k' : Int) := by omega
        have hk1' : (k' : Int) < (nk : Int) := by omega
        have CK := Lib.hid (fun W2 (q : Below W.heap.size W W2) g => HKID.out W2 q x cs hnr (HGS.out x (List.mem_of_getElem? hx)) g)
        have hdx := drop_at hx
        have HDX := Lib.hid hdx
        clear hx hFb hnr hrg hcl hdx
        go_upto_region 15 with (first
          | (refine wpList_load_mid rfl 45 (.tmp 57) rfl b (off + k' * 5) rfl cs _ RG.out Tryd.underlying45 rfl (by rw [HCL.out]; kernel_rfl) ?_)
          | (refine wpList_store_new rfl 45 (.tmp 10) (.tmp 58) rfl wr.heap.size _ _ cs rfl rfl rfl (by rw [HCL.out]; rfl) (by rw [HCL.out]; kernel_rfl) HONE.out ?_)
          | fail)
        refine wp_gen (fun V3 => Below wr.heap.size wr V3 ∧ Blk V3 wr.heap.size 45 cs.toArray) ⟨HVX.out, HKX.out⟩ ?_
        rintro V3 ⟨hV3, hk3⟩
        try simp only [Act.put, List.setIfInBounds_toArray, List.set_cons_zero, List.set_cons_succ]
        have HV3 := Lib.hid hV3
        have HBV := Lib.hid (below_step HB.out hV3)
        have RK := Lib.hid (fun w' (q : Below V3.heap.size V3 w') => (hk3.below q hk3.lt).range)
        clear hV3 hk3 HKX HVX RG
        have hHeld := HBV.out
        have hXS := HXS.out.below HV3.out
        have CR := Lib.hid (CK.out V3 HBV.out h)
        obtain ⟨r, hr⟩ : ∃ r, r = runN x h := ⟨_, rfl⟩
        have HRL := Lib.hid (show r.1.length ≤ 64 by rw [hr]; exact runN_len x h)
        have HS2 : Hid (R = match joinF xs r with | none => ([], false) | some a => runPar (ks.drop (k' + 1)) h a) := Lib.hid (by have := HS.out; rw [HDX.out, runPar, ← hr] at this; exact this)
        rw [← hr] at CR
        obtain ⟨rs, ok⟩ := r
        simp only at CR HRL
        have HXS3 := Lib.hid hXS
        clear hr hXS HS
        go_upto_region 17 with (first
          | (refine wpList_load_mid rfl 45 (.tmp 10) rfl wr.heap.size 0 rfl cs _ (RK.out _ (Below.refl _ _)) Tryd.underlying45 rfl (by rw [HCL.out]; kernel_rfl) ?_)
          | (refine wpList_load_mid rfl 31 (.tmp 3) rfl (w.heap.size + 1) 0 rfl h.1.vals _ (RH.out _ hHeld) Tryd.underlying31 rfl (by kernel_rfl) ?_)
          | (go_at_call 43; (with_reducible refine CR.out.mono ?_); rintro e u1 ⟨vr, rfl, hsr, hbq⟩; have HSR := Lib.hid hsr; have HU1 := Lib.hid (below_step HBV.out hbq); have CU := Lib.hid (pol_union u1 _ vr xs rs (HTW.out.below HU1.out) (HXS3.out.below hbq) hsr (by have := HXL.out; omega) (by have := HRL.out; omega)); clear hbq hsr)
          | (go_at_call 60; (with_reducible refine CU.out.mono ?_); rintro e u2 ⟨vu, rfl, hsu, hbu⟩; obtain ⟨A8, c8, hq8⟩ := hsu.form; obtain ⟨N8, hN8⟩ : ∃ N, N = (unionO xs rs).length := ⟨_, rfl⟩; rw [← hN8] at hq8; subst hq8; have HSU := Lib.hid hsu; have HU2 := Lib.hid (below_step HU1.out hbu); have HN8 := Lib.hid hN8; clear hsu hbu hN8)
          | fail)
        cases ok
        · have E : Hid (([], false) = R) := Lib.hid (by rw [HS2.out]; unfold joinF; rw [if_pos (Or.inl rfl)])
          go_wp2_with fail
          go_ret2
          obtain ⟨v', e', hs'⟩ := ret_run (r := ([], false)) (Hs.nil u2) rfl E.out
          exact ⟨v', e', hs', below_step HW.out HU2.out⟩
        · by_cases hbig : 64 < N8
          · have dq : decide ((N8 : Int) > 64) = true := decide_eq_true (by omega)
            have E : Hid (([], false) = R) := Lib.hid (by rw [HS2.out]; unfold joinF; rw [if_pos (Or.inr (by show 64 < (unionO xs rs).length; rw [← HN8.out]; exact hbig))])
            go_wp2_with fail
            go_ret2
            obtain ⟨v', e', hs'⟩ := ret_run (r := ([], false)) (Hs.nil u2) rfl E.out
            exact ⟨v', e', hs', below_step HW.out HU2.out⟩
          · have dq : decide ((N8 : Int) > 64) = false := decide_eq_false (by omega)
            have HS3 : Hid (R = runPar (ks.drop (k' + 1)) h (unionO xs rs)) := Lib.hid (by
              rw [HS2.out]
              unfold joinF
              rw [if_neg (by
                intro hc
                rcases hc with hc | hc
                · cases hc
                · rw [← HN8.out] at hc; omega)])
            go_wp2_with fail
            go_roundw
            case rel => exact ⟨k' + 1, unionO xs rs, by omega, by go_num, HSU, Lib.hid (by show _ ≤ _; rw [← HN8.out]; omega), HS3, HU2⟩
            case measure => simp [intOf]; omega
      · obtain rfl : k' = nk := by omega
        have E : Hid ((xs, true) = R) := Lib.hid (by have := HS.out; rw [List.drop_eq_nil_of_le (by rw [← HLEN.out.1]; omega), runPar] at this; exact this.symm)
        go_wp2_with fail
        go_ret2
        obtain ⟨v', e', hs'⟩ := ret_run (r := (xs, true)) HXS.out rfl E.out
        exact ⟨v', e', hs', below_step HW.out HB.out⟩
  have q15 : (k == 15) = false := by simpa using h15
  by_cases h16 : k = 16
  · subst h16
    have HGS := Lib.hid (goodRs_all (show goodRs ks = true by have := HGO.out; rw [if_neg (by omega), if_neg (by omega), if_pos (by omega)] at this; exact this))
    have HR1 : Hid (R = runSeq (ks.drop 0) [h]) := Lib.hid (by rw [HR.out, if_neg (by omega), if_neg (by omega), if_neg (by omega), if_neg (by omega), if_pos rfl]; rfl)
    have HB1 := Lib.hid (hHeld.alloc (Nat.le_refl _) (.cells h.1.vals.toArray 31))
    have HS1 := Lib.hid (Hs.one h (Blk.new W 31 h.1.vals.toArray))
    go_upto_region 23 with (first
      | (refine wpList_load_mid rfl 31 (.tmp 3) rfl (w.heap.size + 1) 0 rfl h.1.vals _ (RH.out _ hHeld) Tryd.underlying31 rfl (by kernel_rfl) ?_)
      | (refine wpList_build_hdr rfl (.tmp 79) rfl h.1 rfl ?_)
      | fail)
    refine wp_gen (fun V => Below W.heap.size W V ∧ Hs V (.slice (some ⟨W.heap.size, 0, none⟩) 1 1) [h]) ⟨HB1.out, HS1.out⟩ ?_
    rintro V ⟨hV, hsV⟩
    have HV := Lib.hid hV
    have HSV := Lib.hid hsV
    have c4V : V.cell? ⟨w.heap.size, 4, none⟩ = some (.slice A nk c) := e4 V hV
    clear hV hsV HB1 HS1 hHeld c0 c4
    go_wp2_with fail
    go_loopw [84, 13] (fun i o wr => ∃ (k' : Nat) (xs : List OHdr) (A3 : Option Addr) (N3 c3 : Nat), k' ≤ nk ∧ i = .int .i64 k' ∧ o = .slice A3 N3 c3 ∧ Hid (Hs wr (.slice A3 N3 c3) xs) ∧ Hid (N3 = xs.length) ∧ Hid (xs.length ≤ 64) ∧ Hid (R = runSeq (ks.drop k') xs) ∧ Hid (Below W.heap.size W wr)) (fun i _ _ => nk - (intOf i).toNat)
    case atStart => exact ⟨0, [h], some ⟨W.heap.size, 0, none⟩, 1, 1, Nat.zero_le _, rfl, rfl, HSV, Lib.hid rfl, Lib.hid (by show 1 ≤ 64; omega), HR1, HV⟩
    case round =>
      obtain ⟨k', xs, A3, N3, c3, hk', rfl, rfl, HXS, HXN, HXL, HS, HB⟩ := hrel
      clear HR1 c4V HSV HV
      by_cases hlt : k' < nk
      · obtain ⟨x, b, off, cs, hx, hA, hFb, hnr, hrg, hcl⟩ := kid_at HLS.out hlt
        subst hA
        have RG := Lib.hid (rangeAt_below hrg (below_step HW.out HB.out) (HF.out b hFb))
        have HCL := Lib.hid hcl
        have HONE := Lib.hid ((nodeR_ok n).one hnr)
        have HKX := Lib.hid (Blk.new wr 45 cs.toArray)
        have HVX := Lib.hid ((Below.refl wr.heap.size wr).alloc (Nat.le_refl _) (.cells cs.toArray 45))
        have hk0' : (0 : Int) ≤ (k' : Int) := by omega
        have hk1' : (k' : Int) < (nk : Int) := by omega
        have CK := Lib.hid (fun W2 (q : Below W.heap.size W W2) g => HKID.out W2 q x cs hnr (HGS.out x (List.mem_of_getElem? hx)) g)
        have HS2 : Hid (R = match eachF (fun g => runN x g) (xs.drop 0) [] with | (_, false) => ([], false) | (a, true) => runSeq (ks.drop (k' + 1)) a) := Lib.hid (by have := HS.out; rw [drop_at hx, runSeq] at this; exact this)
        clear hx hFb hnr hrg hcl HS
        go_upto_region 26 with (first
          | (refine wpList_load_mid rfl 45 (.tmp 86) rfl b (off + k' * 5) rfl cs _ RG.out Tryd.underlying45 rfl (by rw [HCL.out]; kernel_rfl) ?_)
          | (refine wpList_store_new rfl 45 (.tmp 15) (.tmp 87) rfl wr.heap.size _ _ cs rfl rfl rfl (by rw [HCL.out]; rfl) (by rw [HCL.out]; kernel_rfl) HONE.out ?_)
          | fail)
        refine wp_gen (fun V3 => Below wr.heap.size wr V3 ∧ Blk V3 wr.heap.size 45 cs.toArray) ⟨HVX.out, HKX.out⟩ ?_
        rintro V3 ⟨hV3, hk3⟩
        try simp only [Act.put, List.setIfInBounds_toArray, List.set_cons_zero, List.set_cons_succ]
        have HBV := Lib.hid (below_step HB.out hV3)
        have HXS3 := Lib.hid (HXS.out.below hV3)
        have RK := Lib.hid (fun w' (q : Below V3.heap.size V3 w') => (hk3.below q hk3.lt).range)
        obtain ⟨nb, hnb⟩ : ∃ nb, nb = wr.heap.size := ⟨_, rfl⟩
        rw [← hnb] at RK
        rw [← hnb]
        clear hV3 hk3 HKX HVX RG hnb HXS HB
        have hN63 : (N3 : Int) ≤ 9223372036854775807 := by have := HXN.out; have := HXL.out; omega
        go_wp2_with fail
        go_loopw [90, 16] (fun j nx wr => ∃ (j' : Nat) (ys : List OHdr), j' ≤ N3 ∧ j = .int .i64 j' ∧ Hid (Hs wr nx ys) ∧ Hid (ys.length ≤ 64) ∧ Hid (R = match eachF (fun g => runN x g) (xs.drop j') ys with | (_, false) => ([], false) | (a, true) => runSeq (ks.drop (k' + 1)) a) ∧ Hid (Below V3.heap.size V3 wr)) (fun j _ _ => N3 - (intOf j).toNat)
        case atStart => exact ⟨0, [], Nat.zero_le _, rfl, Lib.hid (Hs.nil _), Lib.hid (by simp), HS2, Lib.hid (Below.refl _ _)⟩
        case round =>
          obtain ⟨j', ys, hj', rfl, HYS, HYL, HE, HB2⟩ := hrel
          clear HS2
          by_cases hlj : j' < N3
          · obtain ⟨g, bg, offg, hgx, hAg, hFg, hrgg⟩ := encR_at HXS3.out hlj
            subst hAg
            have RGG := Lib.hid (rangeAt_below hrgg HB2.out hFg)
            have hj0 : (0 : Int) ≤ (j' : Int) := by omega
            have hj1 : (j' : Int) < (N3 : Int) := by omega
            have HKG := Lib.hid (Blk.new wr 31 g.1.vals.toArray)
            have HVG := Lib.hid ((Below.refl wr.heap.size wr).alloc (Nat.le_refl _) (.cells g.1.vals.toArray 31))
            have HDG := Lib.hid (drop_at hgx)
            clear hgx hFg hrgg
            go_upto_region 30 with (first
              | (refine wpList_load_mid rfl 31 (.tmp 92) rfl bg (offg + j' * 19) rfl g.1.vals _ RGG.out Tryd.underlying31 rfl (by kernel_rfl) ?_)
              | (refine wpList_store_new rfl 31 (.tmp 18) (.tmp 93) rfl wr.heap.size _ _ g.1.vals rfl rfl rfl rfl (by kernel_rfl) (vals_one g.1) ?_)
              | fail)
            refine wp_gen (fun V4 => Below wr.heap.size wr V4 ∧ Blk V4 wr.heap.size 31 g.1.vals.toArray) ⟨HVG.out, HKG.out⟩ ?_
            rintro V4 ⟨hV4, hk4⟩
            try simp only [Act.put, List.setIfInBounds_toArray, List.set_cons_zero, List.set_cons_succ]
            have HB4 := Lib.hid (below_step HB2.out hV4)
            have HBW4 := Lib.hid (below_step HBV.out (below_step HB2.out hV4))
            have R4 := Lib.hid hk4.range
            have RK4 := Lib.hid (RK.out V4 (below_step HB2.out hV4))
            have HYS4 := Lib.hid (HYS.out.below hV4)
            have CR := Lib.hid (CK.out V4 (below_step HBV.out (below_step HB2.out hV4)) g)
            obtain ⟨r, hr⟩ : ∃ r, r = runN x g := ⟨_, rfl⟩
            have HRL := Lib.hid (show r.1.length ≤ 64 by rw [hr]; exact runN_len x g)
            have HE2 : Hid (eachF (fun g => runN x g) (xs.drop j') ys = match joinF ys r with | none => ([], false) | some a => eachF (fun g => runN x g) (xs.drop (j' + 1)) a) := Lib.hid (by rw [HDG.out, eachF, ← hr]; rfl)
            rw [← hr] at CR
            obtain ⟨rs, ok⟩ := r
            simp only at CR HRL
            clear hr hV4 hk4 HKG HVG RGG
            go_upto_region 32 with (first
              | (refine wpList_load_mid rfl 45 (.tmp 15) rfl nb 0 rfl cs _ RK4.out Tryd.underlying45 rfl (by rw [HCL.out]; kernel_rfl) ?_)
              | (refine wpList_load_mid rfl 31 (.tmp 18) rfl wr.heap.size 0 rfl g.1.vals _ R4.out Tryd.underlying31 rfl (by kernel_rfl) ?_)
              | (go_at_call 43; (with_reducible refine CR.out.mono ?_); rintro e u1 ⟨vr, rfl, hsr, hbq⟩; have HSR := Lib.hid hsr; have HU1 := Lib.hid (below_step HB4.out hbq); have CU := Lib.hid (pol_union u1 _ vr ys rs (HTW.out.below (below_step HBW4.out hbq)) (HYS4.out.below hbq) hsr (by have := HYL.out; omega) (by have := HRL.out; omega)); clear hbq hsr)
              | (go_at_call 60; (with_reducible refine CU.out.mono ?_); rintro e u2 ⟨vu, rfl, hsu, hbu⟩; obtain ⟨A8, c8, hq8⟩ := hsu.form; obtain ⟨N8, hN8⟩ : ∃ N, N = (unionO ys rs).length := ⟨_, rfl⟩; rw [← hN8] at hq8; subst hq8; have HSU := Lib.hid hsu; have HU2 := Lib.hid (below_step HU1.out hbu); have HN8 := Lib.hid hN8; clear hsu hbu hN8)
              | fail)
            cases ok
            · have E : Hid (([], false) = R) := Lib.hid (by rw [HE.out, HE2.out]; unfold joinF; rw [if_pos (Or.inl rfl)])
              go_wp2_with fail
              go_ret2
              obtain ⟨v', e', hs'⟩ := ret_run (r := ([], false)) (Hs.nil u2) rfl E.out
              exact ⟨v', e', hs', below_step HW.out (below_step HBV.out HU2.out)⟩
            · by_cases hbig : 64 < N8
              · have dq : decide ((N8 : Int) > 64) = true := decide_eq_true (by omega)
                have E : Hid (([], false) = R) := Lib.hid (by rw [HE.out, HE2.out]; unfold joinF; rw [if_pos (Or.inr (by show 64 < (unionO ys rs).length; rw [← HN8.out]; exact hbig))])
                go_wp2_with fail
                go_ret2
                obtain ⟨v', e', hs'⟩ := ret_run (r := ([], false)) (Hs.nil u2) rfl E.out
                exact ⟨v', e', hs', below_step HW.out (below_step HBV.out HU2.out)⟩
              · have dq : decide ((N8 : Int) > 64) = false := decide_eq_false (by omega)
                have HE3 : Hid (R = match eachF (fun g => runN x g) (xs.drop (j' + 1)) (unionO ys rs) with | (_, false) => ([], false) | (a, true) => runSeq (ks.drop (k' + 1)) a) := Lib.hid (by
                  rw [HE.out, HE2.out]
                  unfold joinF
                  rw [if_neg (by
                    intro hc
                    rcases hc with hc | hc
                    · cases hc
                    · rw [← HN8.out] at hc; omega)])
                go_wp2_with fail
                go_roundw
                case rel => exact ⟨j' + 1, unionO ys rs, by omega, by go_num, HSU, Lib.hid (by show _ ≤ _; rw [← HN8.out]; omega), HE3, HU2⟩
                case measure => simp [intOf]; omega
          · obtain rfl : j' = N3 := by omega
            have HS3 : Hid (R = runSeq (ks.drop (k' + 1)) ys) := Lib.hid (by have := HE.out; rw [List.drop_eq_nil_of_le (by rw [← HXN.out]; omega), eachF] at this; exact this)
            obtain ⟨A9, c9, hq9⟩ := HYS.out.form
            obtain ⟨N9, hN9⟩ : ∃ N, N = ys.length := ⟨_, rfl⟩
            rw [← hN9] at hq9
            subst hq9
            have HN9 := Lib.hid hN9
            clear hN9
            go_wp2_with fail
            go_roundw
            case rel => exact ⟨k' + 1, ys, A9, N9, c9, by omega, by go_num, rfl, HYS, HN9, HYL, HS3, Lib.hid (below_step HBV.out HB2.out)⟩
            case measure => simp [intOf]; omega
      · obtain rfl : k' = nk := by omega
        have E : Hid ((xs, true) = R) := Lib.hid (by have := HS.out; rw [List.drop_eq_nil_of_le (by rw [← HLEN.out.1]; omega), runSeq] at this; exact this.symm)
        go_wp2_with fail
        go_ret2
        obtain ⟨v', e', hs'⟩ := ret_run (r := (xs, true)) HXS.out rfl E.out
        exact ⟨v', e', hs', below_step HW.out HB.out⟩
  have q16 : (k == 16) = false := by simpa using h16
  by_cases h17 : k = 17
  · subst h17
    have hgo : goodIf ks = true := by have := HGO.out; rw [if_neg (by omega), if_neg (by omega), if_neg (by omega), if_pos rfl] at this; exact this
    have hR1 : R = runIf ks h := by rw [HR.out, if_neg (by omega), if_neg (by omega), if_neg (by omega), if_neg (by omega), if_neg (by omega), if_pos rfl]
    obtain ⟨p, a, d, hks⟩ : ∃ p a d, ks = [p, a, d] := by
      match ks, hgo with
      | [], e => rw [goodIf] at e; cases e; intro p a b hp; cases hp
      | [p], e => rw [goodIf] at e; cases e; intro p a b hp; cases hp
      | [p, q], e => rw [goodIf] at e; cases e; intro p a b hp; cases hp
      | [p, a, d], _ => exact ⟨p, a, d, rfl⟩
      | p :: q :: r :: s :: t, e => rw [goodIf] at e; cases e; intro p a b hp; cases hp
    have hlen1 := HLEN.out.1
    rw [hks] at hgo hR1 hlen1
    have hn1 : nk = 3 := hlen1
    rw [goodIf] at hgo
    simp only [Bool.and_eq_true] at hgo
    rw [runIf] at hR1
    obtain ⟨x0, b0, off0, cs0, hx0, hA0, hFb0, hnr0, hrg0, hcl0⟩ := kid_at HLS.out (i := 0) (by omega)
    obtain ⟨x1, b1, off1, cs1, hx1, hA1, hFb1, hnr1, hrg1, hcl1⟩ := kid_at HLS.out (i := 1) (by omega)
    obtain ⟨x2, b2, off2, cs2, hx2, hA2, hFb2, hnr2, hrg2, hcl2⟩ := kid_at HLS.out (i := 2) (by omega)
    rw [hks] at hx0 hx1 hx2
    obtain rfl : p = x0 := by simpa using hx0
    obtain rfl : a = x1 := by simpa using hx1
    obtain rfl : d = x2 := by simpa using hx2
    subst hA0
    cases hA1
    cases hA2
    have RG0 := Lib.hid (fun w' (q : Below W.heap.size W w') => rangeAt_below hrg0 (below_step HW.out q) (HF.out b0 hFb0))
    have RG1 := Lib.hid (fun w' (q : Below W.heap.size W w') => rangeAt_below hrg1 (below_step HW.out q) (HF.out b0 hFb0))
    have RG2 := Lib.hid (fun w' (q : Below W.heap.size W w') => rangeAt_below hrg2 (below_step HW.out q) (HF.out b0 hFb0))
    have HCL0 := Lib.hid hcl0
    have HCL1 := Lib.hid hcl1
    have HCL2 := Lib.hid hcl2
    have CH := Lib.hid (fun W2 (q : Below W.heap.size W W2) => HHOLD.out W2 q p cs0 hnr0 hgo.1)
    have CR1 := Lib.hid (fun W2 (q : Below W.heap.size W W2) => HKID.out W2 q a cs1 hnr1 hgo.2.1 h)
    have CR2 := Lib.hid (fun W2 (q : Below W.heap.size W W2) => HKID.out W2 q d cs2 hnr2 hgo.2.2 h)
    simp only [Nat.zero_mul, Nat.one_mul, Nat.add_zero] at RG0 RG1 RG2
    obtain ⟨t, ht⟩ : ∃ t, t = holdsN p h.1 := ⟨_, rfl⟩
    rw [← ht] at CH hR1
    obtain ⟨ra, hra⟩ : ∃ r, r = runN a h := ⟨_, rfl⟩
    obtain ⟨rd, hrd⟩ : ∃ r, r = runN d h := ⟨_, rfl⟩
    rw [← hra] at CR1 hR1
    rw [← hrd] at CR2 hR1
    obtain ⟨a1, a2⟩ := ra
    obtain ⟨d1, d2⟩ := rd
    simp only at CR1 CR2
    have HR1 := Lib.hid hR1
    clear hx0 hx1 hx2 hFb0 hFb1 hFb2 hnr0 hnr1 hnr2 hrg0 hrg1 hrg2 hcl0 hcl1 hcl2 ht hgo hks hlen1 hR1 hra hrd
    subst hn1
    go_upto_region 39 with fail
    go_cut [121] (fun s wx => s = .bool t ∧ Below W.heap.size W wx)
    case first =>
      as_aux_lemma =>
      refine wp_region_held_drew (S := (fun w' => Below W.heap.size W w')) (by kernel_rfl) ?_ (fun hHeld => ?_)
      · (try dsimp only); (first | (with_reducible exact below_step (by assumption) hb1') | (repeat' (first | (with_reducible exact Below.refl _ _) | (with_reducible assumption) | (with_reducible exact Below.size (by assumption)) | (with_reducible refine Below.drew ?_))))
      refine wpAnyH_take (i := 0) (v := ?_) rfl (by kernel_rfl) (by kernel_rfl) (by kernel_rfl) (fun _ _ _ h => h) (Or.inl ⟨by rfl, ?_⟩) (by assumption) ?_
      rotate_left
      · (intro w hSw; (try dsimp only at hSw); go_simp; first | done | with_reducible rfl)
      try simp only [List.getElem_toArray, List.getElem_cons_zero, List.getElem_cons_succ, Act.put, List.setIfInBounds_toArray, List.set_cons_zero, List.set_cons_succ]
      refine wpAnyH_take (i := 1) (v := ?_) rfl (by kernel_rfl) (by kernel_rfl) (by kernel_rfl) (fun _ _ _ h => h) (Or.inl ⟨by rfl, ?_⟩) (by assumption) ?_
      rotate_left
      · (intro w hSw; (try dsimp only at hSw); go_simp; first | done | with_reducible rfl)
      try simp only [List.getElem_toArray, List.getElem_cons_zero, List.getElem_cons_succ, Act.put, List.setIfInBounds_toArray, List.set_cons_zero, List.set_cons_succ]
      refine wpAnyH_take (i := 2) (v := ?_) rfl (by kernel_rfl) (by kernel_rfl) (by kernel_rfl) (fun _ _ _ h => h) (Or.inl ⟨by rfl, ?_⟩) (by assumption) ?_
      rotate_left
      · (intro w hSw; (try dsimp only at hSw); go_simp; first | done | with_reducible rfl)
      try simp only [List.getElem_toArray, List.getElem_cons_zero, List.getElem_cons_succ, Act.put, List.setIfInBounds_toArray, List.set_cons_zero, List.set_cons_succ]
      refine wpAnyH_take (i := 3) (v := _) rfl (by kernel_rfl) (by kernel_rfl) (by kernel_rfl) (fun _ _ _ h => h) (yieldsIf_load_mid (by rfl) _ _ rfl _ _ rfl cs0 _ (fun w' q => RG0.out w' q) Tryd.underlying45 rfl (by rw [HCL0.out]; kernel_rfl)) (by assumption) ?_
      try simp only [List.getElem_toArray, List.getElem_cons_zero, List.getElem_cons_succ, Act.put, List.setIfInBounds_toArray, List.set_cons_zero, List.set_cons_succ]
      refine wpAnyH_take (i := 4) (v := _) rfl (by kernel_rfl) (by kernel_rfl) (by kernel_rfl) (fun _ _ _ h => h) (yieldsIf_load_mid (by rfl) _ _ rfl _ _ rfl h.1.vals _ (fun w' q => RH.out w' q) Tryd.underlying31 rfl (by kernel_rfl)) (by assumption) ?_
      try simp only [List.getElem_toArray, List.getElem_cons_zero, List.getElem_cons_succ, Act.put, List.setIfInBounds_toArray, List.set_cons_zero, List.set_cons_succ]
      refine wpAnyH_ready (rs := [5]) (by kernel_rfl) (by simp) ?_
      refine AllReadyH.cons rfl (fun K hK => ?_) AllReadyH.nil
      go_simp
      (go_at_call 33; (with_reducible refine (CH.out _ hHeld).mono ?_); rintro e u1 ⟨rfl, hbq⟩; have hb1' := below_step hHeld hbq; have hq := hb1'; clear hbq)
      go_wp2_with fail
      refine hK.out _ _ ?_ (fun hHeldN => ?_)
      · (try dsimp only); (first | (with_reducible exact below_step (by assumption) hb1') | (repeat' (first | (with_reducible exact Below.refl _ _) | (with_reducible assumption) | (with_reducible exact Below.size (by assumption)) | (with_reducible refine Below.drew ?_))))
      clear hK K hHeld
      try clear hb1' hq
      have hHeld := hHeldN
      clear hHeldN
      try simp only [List.getElem_toArray, List.getElem_cons_zero, List.getElem_cons_succ, Act.put, List.setIfInBounds_toArray, List.set_cons_zero, List.set_cons_succ]
      refine wpAnyH_done (by kernel_rfl) ?_ _
      go_wp2_with fail
      go_meet
      exact ⟨rfl, by assumption⟩
    case rest =>
    obtain ⟨rfl, hB⟩ := hcut
    clear hHeld
    have HBC := Lib.hid hB
    cases t
    · have E : Hid ((d1, d2) = R) := Lib.hid (by rw [HR1.out]; rfl)
      go_upto_region 41 with fail
      as_aux_lemma =>
      refine wp_region_held_drew (S := (fun w' => Below W.heap.size W w')) (by kernel_rfl) ?_ (fun hHeld => ?_)
      · (try dsimp only); (first | (with_reducible exact hb1') | exact hB | exact hB.drew)
      refine wpAnyH_take (i := 0) (v := ?_) rfl (by kernel_rfl) (by kernel_rfl) (by kernel_rfl) (fun _ _ _ h => h) (Or.inl ⟨by rfl, ?_⟩) (by assumption) ?_
      rotate_left
      · (intro w hSw; (try dsimp only at hSw); go_simp; first | done | with_reducible rfl)
      try simp only [List.getElem_toArray, List.getElem_cons_zero, List.getElem_cons_succ, Act.put, List.setIfInBounds_toArray, List.set_cons_zero, List.set_cons_succ]
      refine wpAnyH_take (i := 1) (v := ?_) rfl (by kernel_rfl) (by kernel_rfl) (by kernel_rfl) (fun _ _ _ h => h) (Or.inl ⟨by rfl, ?_⟩) (by assumption) ?_
      rotate_left
      · (intro w hSw; (try dsimp only at hSw); go_simp; first | done | with_reducible rfl)
      try simp only [List.getElem_toArray, List.getElem_cons_zero, List.getElem_cons_succ, Act.put, List.setIfInBounds_toArray, List.set_cons_zero, List.set_cons_succ]
      refine wpAnyH_take (i := 2) (v := ?_) rfl (by kernel_rfl) (by kernel_rfl) (by kernel_rfl) (fun _ _ _ h => h) (Or.inl ⟨by rfl, ?_⟩) (by assumption) ?_
      rotate_left
      · (intro w hSw; (try dsimp only at hSw); go_simp; first | done | with_reducible rfl)
      try simp only [List.getElem_toArray, List.getElem_cons_zero, List.getElem_cons_succ, Act.put, List.setIfInBounds_toArray, List.set_cons_zero, List.set_cons_succ]
      refine wpAnyH_take (i := 3) (v := _) rfl (by kernel_rfl) (by kernel_rfl) (by kernel_rfl) (fun _ _ _ h => h) (yieldsIf_load_mid (by rfl) _ _ rfl _ _ rfl cs2 _ (fun w' q => RG2.out w' q) Tryd.underlying45 rfl (by rw [HCL2.out]; kernel_rfl)) (by assumption) ?_
      try simp only [List.getElem_toArray, List.getElem_cons_zero, List.getElem_cons_succ, Act.put, List.setIfInBounds_toArray, List.set_cons_zero, List.set_cons_succ]
      refine wpAnyH_take (i := 4) (v := _) rfl (by kernel_rfl) (by kernel_rfl) (by kernel_rfl) (fun _ _ _ h => h) (yieldsIf_load_mid (by rfl) _ _ rfl _ _ rfl h.1.vals _ (fun w' q => RH.out w' q) Tryd.underlying31 rfl (by kernel_rfl)) (by assumption) ?_
      try simp only [List.getElem_toArray, List.getElem_cons_zero, List.getElem_cons_succ, Act.put, List.setIfInBounds_toArray, List.set_cons_zero, List.set_cons_succ]
      refine wpAnyH_ready (rs := [5]) (by kernel_rfl) (by simp) ?_
      refine AllReadyH.cons rfl (fun K hK => ?_) AllReadyH.nil
      go_simp
      (go_at_call 43; (with_reducible refine (CR2.out _ hHeld).mono ?_); rintro e u1 ⟨vr, rfl, hsr, hbq⟩; have HSR := Lib.hid hsr; have hb1' := below_step hHeld hbq; have hq := hb1'; clear hbq hsr)
      go_wp2_with fail
      refine hK.out _ _ ?_ (fun hHeldN => ?_)
      · (try dsimp only); (first | (with_reducible exact hb1') | exact hB | exact hB.drew)
      clear hK K hHeld
      try clear hb1' hq
      have hHeld := hHeldN
      clear hHeldN
      try simp only [List.getElem_toArray, List.getElem_cons_zero, List.getElem_cons_succ, Act.put, List.setIfInBounds_toArray, List.set_cons_zero, List.set_cons_succ]
      refine wpAnyH_take (i := 6) (v := ?_) rfl (by kernel_rfl) (by kernel_rfl) (by kernel_rfl) (fun _ _ _ h => h) (Or.inl ⟨by rfl, ?_⟩) (by assumption) ?_
      rotate_left
      · (intro w hSw; (try dsimp only at hSw); go_simp; first | done | with_reducible rfl)
      try simp only [List.getElem_toArray, List.getElem_cons_zero, List.getElem_cons_succ, Act.put, List.setIfInBounds_toArray, List.set_cons_zero, List.set_cons_succ]
      refine wpAnyH_take (i := 7) (v := ?_) rfl (by kernel_rfl) (by kernel_rfl) (by kernel_rfl) (fun _ _ _ h => h) (Or.inl ⟨by rfl, ?_⟩) (by assumption) ?_
      rotate_left
      · (intro w hSw; (try dsimp only at hSw); go_simp; first | done | with_reducible rfl)
      try simp only [List.getElem_toArray, List.getElem_cons_zero, List.getElem_cons_succ, Act.put, List.setIfInBounds_toArray, List.set_cons_zero, List.set_cons_succ]
      refine wpAnyH_take (i := 8) (v := ?_) rfl (by kernel_rfl) (by kernel_rfl) (by kernel_rfl) (fun _ _ _ h => h) (Or.inl ⟨by rfl, ?_⟩) (by assumption) ?_
      rotate_left
      · (intro w hSw; (try dsimp only at hSw); go_simp; first | done | with_reducible rfl)
      try simp only [List.getElem_toArray, List.getElem_cons_zero, List.getElem_cons_succ, Act.put, List.setIfInBounds_toArray, List.set_cons_zero, List.set_cons_succ]
      refine wpAnyH_take (i := 9) (v := ?_) rfl (by kernel_rfl) (by kernel_rfl) (by kernel_rfl) (fun _ _ _ h => h) (Or.inl ⟨by rfl, ?_⟩) (by assumption) ?_
      rotate_left
      · (intro w hSw; (try dsimp only at hSw); go_simp; first | done | with_reducible rfl)
      try simp only [List.getElem_toArray, List.getElem_cons_zero, List.getElem_cons_succ, Act.put, List.setIfInBounds_toArray, List.set_cons_zero, List.set_cons_succ]
      refine wpAnyH_done (by kernel_rfl) ?_ _
      rename_i hcur
      go_wp2_with fail
      go_ret2
      obtain ⟨v', e', hs'⟩ := ret_run (r := (d1, d2)) HSR.out rfl E.out
      exact ⟨v', e', hs', below_step HW.out hHeld⟩
    · have E : Hid ((a1, a2) = R) := Lib.hid (by rw [HR1.out]; rfl)
      go_upto_region 40 with fail
      as_aux_lemma =>
      refine wp_region_held_drew (S := (fun w' => Below W.heap.size W w')) (by kernel_rfl) ?_ (fun hHeld => ?_)
      · (try dsimp only); (first | (with_reducible exact hb1') | exact hB | exact hB.drew)
      refine wpAnyH_take (i := 0) (v := ?_) rfl (by kernel_rfl) (by kernel_rfl) (by kernel_rfl) (fun _ _ _ h => h) (Or.inl ⟨by rfl, ?_⟩) (by assumption) ?_
      rotate_left
      · (intro w hSw; (try dsimp only at hSw); go_simp; first | done | with_reducible rfl)
      try simp only [List.getElem_toArray, List.getElem_cons_zero, List.getElem_cons_succ, Act.put, List.setIfInBounds_toArray, List.set_cons_zero, List.set_cons_succ]
      refine wpAnyH_take (i := 1) (v := ?_) rfl (by kernel_rfl) (by kernel_rfl) (by kernel_rfl) (fun _ _ _ h => h) (Or.inl ⟨by rfl, ?_⟩) (by assumption) ?_
      rotate_left
      · (intro w hSw; (try dsimp only at hSw); go_simp; first | done | with_reducible rfl)
      try simp only [List.getElem_toArray, List.getElem_cons_zero, List.getElem_cons_succ, Act.put, List.setIfInBounds_toArray, List.set_cons_zero, List.set_cons_succ]
      refine wpAnyH_take (i := 2) (v := ?_) rfl (by kernel_rfl) (by kernel_rfl) (by kernel_rfl) (fun _ _ _ h => h) (Or.inl ⟨by rfl, ?_⟩) (by assumption) ?_
      rotate_left
      · (intro w hSw; (try dsimp only at hSw); go_simp; first | done | with_reducible rfl)
      try simp only [List.getElem_toArray, List.getElem_cons_zero, List.getElem_cons_succ, Act.put, List.setIfInBounds_toArray, List.set_cons_zero, List.set_cons_succ]
      refine wpAnyH_take (i := 3) (v := _) rfl (by kernel_rfl) (by kernel_rfl) (by kernel_rfl) (fun _ _ _ h => h) (yieldsIf_load_mid (by rfl) _ _ rfl _ _ rfl cs1 _ (fun w' q => RG1.out w' q) Tryd.underlying45 rfl (by rw [HCL1.out]; kernel_rfl)) (by assumption) ?_
      try simp only [List.getElem_toArray, List.getElem_cons_zero, List.getElem_cons_succ, Act.put, List.setIfInBounds_toArray, List.set_cons_zero, List.set_cons_succ]
      refine wpAnyH_take (i := 4) (v := _) rfl (by kernel_rfl) (by kernel_rfl) (by kernel_rfl) (fun _ _ _ h => h) (yieldsIf_load_mid (by rfl) _ _ rfl _ _ rfl h.1.vals _ (fun w' q => RH.out w' q) Tryd.underlying31 rfl (by kernel_rfl)) (by assumption) ?_
      try simp only [List.getElem_toArray, List.getElem_cons_zero, List.getElem_cons_succ, Act.put, List.setIfInBounds_toArray, List.set_cons_zero, List.set_cons_succ]
      refine wpAnyH_ready (rs := [5]) (by kernel_rfl) (by simp) ?_
      refine AllReadyH.cons rfl (fun K hK => ?_) AllReadyH.nil
      go_simp
      (go_at_call 43; (with_reducible refine (CR1.out _ hHeld).mono ?_); rintro e u1 ⟨vr, rfl, hsr, hbq⟩; have HSR := Lib.hid hsr; have hb1' := below_step hHeld hbq; have hq := hb1'; clear hbq hsr)
      go_wp2_with fail
      refine hK.out _ _ ?_ (fun hHeldN => ?_)
      · (try dsimp only); (first | (with_reducible exact hb1') | exact hB | exact hB.drew)
      clear hK K hHeld
      try clear hb1' hq
      have hHeld := hHeldN
      clear hHeldN
      try simp only [List.getElem_toArray, List.getElem_cons_zero, List.getElem_cons_succ, Act.put, List.setIfInBounds_toArray, List.set_cons_zero, List.set_cons_succ]
      refine wpAnyH_take (i := 6) (v := ?_) rfl (by kernel_rfl) (by kernel_rfl) (by kernel_rfl) (fun _ _ _ h => h) (Or.inl ⟨by rfl, ?_⟩) (by assumption) ?_
      rotate_left
      · (intro w hSw; (try dsimp only at hSw); go_simp; first | done | with_reducible rfl)
      try simp only [List.getElem_toArray, List.getElem_cons_zero, List.getElem_cons_succ, Act.put, List.setIfInBounds_toArray, List.set_cons_zero, List.set_cons_succ]
      refine wpAnyH_take (i := 7) (v := ?_) rfl (by kernel_rfl) (by kernel_rfl) (by kernel_rfl) (fun _ _ _ h => h) (Or.inl ⟨by rfl, ?_⟩) (by assumption) ?_
      rotate_left
      · (intro w hSw; (try dsimp only at hSw); go_simp; first | done | with_reducible rfl)
      try simp only [List.getElem_toArray, List.getElem_cons_zero, List.getElem_cons_succ, Act.put, List.setIfInBounds_toArray, List.set_cons_zero, List.set_cons_succ]
      refine wpAnyH_take (i := 8) (v := ?_) rfl (by kernel_rfl) (by kernel_rfl) (by kernel_rfl) (fun _ _ _ h => h) (Or.inl ⟨by rfl, ?_⟩) (by assumption) ?_
      rotate_left
      · (intro w hSw; (try dsimp only at hSw); go_simp; first | done | with_reducible rfl)
      try simp only [List.getElem_toArray, List.getElem_cons_zero, List.getElem_cons_succ, Act.put, List.setIfInBounds_toArray, List.set_cons_zero, List.set_cons_succ]
      refine wpAnyH_take (i := 9) (v := ?_) rfl (by kernel_rfl) (by kernel_rfl) (by kernel_rfl) (fun _ _ _ h => h) (Or.inl ⟨by rfl, ?_⟩) (by assumption) ?_
      rotate_left
      · (intro w hSw; (try dsimp only at hSw); go_simp; first | done | with_reducible rfl)
      try simp only [List.getElem_toArray, List.getElem_cons_zero, List.getElem_cons_succ, Act.put, List.setIfInBounds_toArray, List.set_cons_zero, List.set_cons_succ]
      refine wpAnyH_done (by kernel_rfl) ?_ _
      rename_i hcur
      go_wp2_with fail
      go_ret2
      obtain ⟨v', e', hs'⟩ := ret_run (r := (a1, a2)) HSR.out rfl E.out
      exact ⟨v', e', hs', below_step HW.out hHeld⟩
  have q17 : (k == 17) = false := by simpa using h17
  have E : Hid (([], true) = R) := Lib.hid (by rw [HR.out, if_neg h12, if_neg h13, if_neg h14, if_neg h15, if_neg h16, if_neg h17])
  as_aux_lemma =>
  go_wp2_with fail
  go_ret2
  obtain ⟨v', e', hs'⟩ := ret_run (r := ([], true)) (Hs.nil W) rfl E.out
  exact ⟨v', e', hs', HW.out⟩
theorem node_run : ∀ n, RunC n
  | 0 => fun x cs w F h _ _ hn => hn.elim
  | n + 1 => fun x cs w F h hT hF hn hgo => by
    obtain ⟨k, f, v, m, ks⟩ := x
    obtain ⟨sl, rfl, hfit, hl⟩ := hn
    obtain ⟨A, c, he, h1, h2, h3⟩ := hl
    cases he
    exact node_run_step n (node_run n) k f v m ks A _ c w F h hT hF hfit.val.1 ⟨A, c, rfl, h1, h2, h3⟩ hgo
end Go.Proofs.YtjeligbgcofaeaaDoor
