/- The law ChooseOrders. -/
import Derived.Test.YtngfabnkgpidjaaOrderC
import Derived.Test.YtngfabnkgpidjaaLawBest
namespace Go.Proofs.Ytngfabnkgpidjaa
open Go.RowKit
set_option linter.unusedVariables false

theorem bool_info : (Try.prog.info? 4).map (fun i => (i.zero, i.size, i.bytes)) = some (some (.bool false), 1, 1) := by kernel_rfl

theorem SomeSt.start (w : World) : SomeSt w ((w.alloc (.cells #[] 48)).alloc (.cells #[] 3)) (.slice (some ⟨w.heap.size, 0, none⟩) 0 0) (.slice (some ⟨w.heap.size + 1, 0, none⟩) 0 0) [] [] := by
  refine ⟨(own_made1 w _ _).alloc _, ?_, .inr ?_, ((Below.refl _ _).alloc (Nat.le_refl _) _).alloc (by simp) _⟩
  · have h : ((w.alloc (.cells #[] 48)).alloc (.cells #[] 3)).ownsRow w.heap.size 3 1 (.slice (some ⟨(w.alloc (.cells #[] 48)).heap.size, 0, none⟩) 0 0) 0 [] :=
      World.ownsRow_made (base := w.heap.size) (e := 3) (size := 1) _ #[] 0 (by simp) (by simp [maxLen]) (by simp)
    simpa using h
  · simp [Value.ownBlock]

set_option maxHeartbeats 8000000 in
theorem law_ChooseOrders (w : World) (F : Nat → Prop) (A : Option Addr) (n c : Nat) (xs : List Cand) (hl : listR 14 candR w F [.slice A n c] xs) (hF : InF F w) :
    Calls Try.prog 7 #[.slice A n c] w fun e w' => e = .returned (.bool true) ∧ Below w.heap.size w w' := by
  have Hl := Lib.hid hl
  have hlen := hl.len.1
  have HF := Lib.hid hF
  have Hfit := Lib.hid (listR_fits hl)
  have HN := Lib.hid hlen
  obtain ⟨i0, hi0, hz0, hz1, hz2⟩ := info_parts int_info
  obtain ⟨ib, hib, hq0, hq1, hq2⟩ := info_parts bool_info
  obtain ⟨ir, hir, hr0, hr1, hr2⟩ := info_parts route_info
  clear hl hlen hF
  go_enter Try.func7, Try.ntmps7
  go_wp2_with fail
  refine (law_head w).mono ?_
  rintro e w1 ⟨rfl, hB1⟩
  go_wp2_with fail
  refine (law_right w1 F A n c xs ((listR_ok candR_ok).below Hl.out hB1 HF.out) (HF.out.below hB1)).mono ?_
  rintro e w2 ⟨rfl, hb2⟩
  have hB2 := below_step hB1 hb2
  cases hr : rightB xs
  · clear hr
    go_wp2_with fail
    go_ret
    exact ⟨rfl, hB2⟩
  obtain ⟨h12, hg, hfr⟩ := right_good hr Hfit.out
  have hn12 : n ≤ 12 := by have := HN.out; omega
  have hn : n ≤ 1048576 := by omega
  have HG := Lib.hid hg
  have HFR := Lib.hid hfr
  clear hr hg hfr h12
  go_wp2_with fail
  refine (choose_Order w2 F A n c xs ((listR_ok candR_ok).below Hl.out hB2 HF.out) (HF.out.below hB2) hn HG.out).mono ?_
  rintro e w3 ⟨v, rfl, hown3, hb3⟩
  have hB3 := below_step hB2 hb3
  obtain ⟨A3, c3, rfl⟩ := own_val hown3
  have hlt3 := hown3.lt
  rw [placeV_map] at hown3
  have hfz := ints_freeze (F := F) hown3 (placeI_bounds (n := n) (fun i hi => by
    obtain ⟨j, hj, rfl⟩ := List.mem_map.1 hi
    have := (ordAt_lt (xs := xs) (j := j) (by rw [← HN.out]; exact List.mem_range.1 hj)).1
    rw [HN.out]
    exact this) hn)
  obtain ⟨F3, hF3⟩ : ∃ F3 : Nat → Prop, F3 = fun b => F b ∨ (Value.slice A3 n c3).ownBlock = some b := ⟨_, rfl⟩
  rw [← hF3] at hfz
  have hin3 : InF F3 w3 := fun b hb => by
    rw [hF3] at hb
    rcases hb with hb | hb
    · exact Nat.lt_of_lt_of_le (HF.out b hb) hB3.size
    · exact (hlt3 b hb).2
  have hl3 : listR 14 candR w3 F3 [.slice A n c] xs := (listR_ok candR_ok).keep Hl.out (fun b hb => hB3.block b (HF.out b hb)) fun b hb => by rw [hF3]; exact .inl hb
  have Hfz := Lib.hid hfz
  have Hin3 := Lib.hid hin3
  have Hl3 := Lib.hid hl3
  have hnn : ((n : Int) != (n : Int)) = false := by simp
  clear hown3 hlt3 hfz hin3 hl3 hF3
  go_wp2_with (at_make; refine wpList_make_full _ rfl _ _ 52 rfl w3.heap.size 4 ib (.bool false) 1 Try.underlying52 hib hq0 hq1 .i64 .i64 n n n rfl rfl rfl rfl ?b2 ?b3 ?b4 ?_)
  case b2 => rw [hq2]; omega
  case b3 => unfold maxLen; omega
  case b4 => exact Nat.le_refl _
  intro w4 hown4 hg4
  have hb4 : Below w3.heap.size w3 w4 := ⟨hg4.os, hg4.tape, hg4.output, hg4.size, fun k hk => hg4.block k hk (by simp)⟩
  have hblk4 : Blk w4 w3.heap.size 4 (goneV xs 0).toArray := by
    obtain ⟨T, hb, _, _, _, h1, h2⟩ := ownsRow_blk hown4
    have : T = [] := by
      apply List.eq_nil_of_length_eq_zero
      rw [List.length_append] at h1
      omega
    rw [this, List.append_nil] at hb
    rw [made_falses, show n = xs.length from HN.out, ← goneV_zero] at hb
    exact hb
  have hF4 : InF F3 w4 := Hin3.out.below hb4
  have hne4 : ∀ b, F3 b → b ≠ w3.heap.size := fun b hb e => by have := Hin3.out b hb; omega
  have Hne4 := Lib.hid hne4
  clear hown4 hg4 hne4
  go_wp2_with fail
  go_loopw [29] (fun i wr => ∃ t : Nat, t ≤ n ∧ i = .int .i64 t ∧ Blk wr w3.heap.size 4 (goneV xs t).toArray ∧ Below w3.heap.size w3 wr) (fun i _ => n - (intOf i).toNat)
  case atStart => exact ⟨0, Nat.zero_le _, rfl, hblk4, hb4⟩
  case round =>
    obtain ⟨t, ht, rfl, hblk, hB⟩ := hrel
    by_cases hlt : t < n
    · obtain ⟨q, hq⟩ : ∃ q, q = ordAt xs t := ⟨_, rfl⟩
      have htx : t < xs.length := by rw [← HN.out]; exact hlt
      obtain ⟨hql, hqg⟩ := ordAt_lt htx
      rw [← HN.out, ← hq] at hql
      rw [← hq] at hqg
      obtain ⟨b3, off3, cs3, rfl, hFb3, ⟨rfl, _⟩, hr3⟩ := Hfz.out.at_ (k := t) (x := (q : Int)) (by rw [List.getElem?_map, ordL, List.getElem?_map, List.getElem?_range hlt, hq]; rfl)
      have d0 : wr.cell? ⟨b3, off3 + t, none⟩ = some (.int .i64 (q : Int)) := by
        have := (hB.cell (p := ⟨b3, off3 + t * 1, none⟩) (Hin3.out b3 hFb3)).trans (hr3 0 _ rfl)
        rwa [Nat.mul_one] at this
      have d1 : wr.cell? ⟨w3.heap.size, q, none⟩ = some (.bool false) := by
        rw [hblk.cell, List.getElem?_toArray, goneV_get (by rw [← HN.out]; exact hql), hqg]
      have Hq := Lib.hid hq
      have Hblk := Lib.hid hblk
      clear hr3 hq hqg htx hblk hblk4 hb4 hF4
      have hd1 : decide ((q : Int) < 0) = false := decide_eq_false (by omega)
      have hd2 : decide (n ≤ q) = false := decide_eq_false (by omega)
      go_wp2_with fail
      obtain ⟨wo, hwo⟩ : ∃ wo : World, wo = wr := ⟨_, rfl⟩
      subst hwo
      go_loopw [7, 8, 51] (fun v7 v8 i wi => ∃ k : Nat, k ≤ n ∧ i = .int .i64 k ∧ SomeSt wo wi v7 v8 ((candsAt xs (leftL xs t k)).map plainI) (leftL xs t k)) (fun _ _ i _ => n - (intOf i).toNat)
      case atStart => exact ⟨0, Nat.zero_le _, rfl, SomeSt.start wo⟩
      case round =>
        obtain ⟨k, hk, rfl, hS⟩ := hrel
        by_cases hlk : k < n
        · obtain ⟨x, hx⟩ : ∃ x, xs[k]? = some x := ⟨_, List.getElem?_eq_getElem (by rw [← HN.out]; exact hlk)⟩
          have hBi := below_step hB hS.below
          obtain ⟨b, off, cs, rfl, hFb, hR, hr⟩ := Hl3.out.at_ hx
          have HR := Lib.hid (fun w' (h : Below w3.heap.size w3 w') => (⟨candR_ok.below hR h Hin3.out, Hin3.out.below h⟩ : candR w' F3 _ x ∧ InF F3 w'))
          obtain ⟨A1, n1, c1, A2, n2, c2, A4, n4, c4, rfl⟩ := hR.lit
          obtain ⟨l1, l2⟩ := cells_now (rangeAt_below hr hBi (Hin3.out b hFb))
          have d2 : wr.cell? ⟨w3.heap.size, k, none⟩ = some (.bool (goneB xs t k)) := by
            rw [(Hblk.out.below hS.below Hblk.out.lt).cell, List.getElem?_toArray, goneV_get (by rw [← HN.out]; exact hlk)]
          have hsz : w3.heap.size < wr.heap.size := (Hblk.out.below hS.below Hblk.out.lt).lt
          have HX := Lib.hid hx
          have HGx := Lib.hid (HG.out x (List.mem_of_getElem? hx))
          have HS := Lib.hid hS
          have hB2 := hBi.alloc hBi.size (.cells #[.int .i64 x.peer, .int .u32 x.addr, .int .i64 x.len, .int .i64 x.at_.has, .int .i64 x.at_.origin, .slice A1 n1 c1, .int .u32 x.at_.nextHop, .int .i64 x.at_.med, .int .i64 x.at_.loc, .int .i64 x.at_.aggrAs, .int .u32 x.at_.aggrId, .slice A2 n2 c2, .slice A4 n4 c4, .int .u32 x.id] 35)
          clear hr hR hx hS d0 d1
          cases hgi : goneB xs t k
          · rw [hgi] at d2
            have Hgi := Lib.hid hgi
            clear hgi
            go_wp2_with fail
            refine (law_plain _ F3 _ x (HR.out _ hB2).1 (HR.out _ hB2).2 HGx.out.small HGx.out.has).mono ?_
            rintro e w5 ⟨rfl, hb5⟩
            have hBr := below_step ((Below.refl wr.heap.size wr).alloc (Nat.le_refl _) _) hb5
            have S5 := HS.out.kept hBr
            have HS5 := Lib.hid S5
            have hlen7 : ((candsAt xs (leftL xs t k)).map plainI).length ≤ 12 := by
              have := leftL_len xs t k
              simp only [candsAt, List.length_map]
              omega
            have hlen8 : (leftL xs t k).length ≤ 12 := by have := leftL_len xs t k; omega
            have hsz5 := S5.below.size
            clear S5 l1 l2 d2
            go_wp2_with (at_builtin; refine wpList_push_own _ rfl (.tmp 61) (.tmp 64) _ rfl wo.heap.size 48 ir _ 7 56 Try.underlying44 hir hr0 hr1 hr2 rfl (by decide) _ _ _ rfl (HS5.out.own7.alloc _) ⟨_, 0, none⟩ 1 1 (plainI x).row rfl rfl ?c1 ?c2 ?c3 (by decide) ?c4 ?_)
            case c1 => exact cells_row_new _ _ _
            case c2 => intro u hu; simp [RRoute.row] at hu; rcases hu with rfl | rfl | rfl | rfl | rfl | rfl | rfl <;> rfl
            case c3 => omega
            case c4 => simp; omega
            intro v7' w6 ho6 hg6 hv6
            have hS6 := (HS5.out.kept ((Below.refl _ _).alloc (Nat.le_refl _) _)).push7 (by rw [List.length_map]; exact ho6) hg6 (by rw [World.size_alloc]; exact hv6)
            have HS6 := Lib.hid hS6
            have hsz6 := hS6.below.size
            clear hS6 ho6 hg6 hv6
            go_wp2_with (at_builtin; refine wpList_push_own _ rfl (.tmp 66) (.tmp 68) _ rfl wo.heap.size 3 i0 (.int .i64 0) 1 8 Try.underlying28 hi0 hz0 hz1 hz2 rfl (by decide) _ _ _ rfl (HS6.out.own8.alloc _) ⟨_, 0, none⟩ 1 1 [.int .i64 (k : Int)] rfl rfl ?c5 ?c6 ?c7 (by decide) ?c8 ?_)
            case c5 => exact cell_one_new _ _ _
            case c6 => simp [Value.oneCell']
            case c7 => omega
            case c8 => simp; omega
            intro v8' w7 ho7 hg7 hv7
            have hS7 := (HS6.out.kept ((Below.refl _ _).alloc (Nat.le_refl _) _)).push8 (p := k) ho7 hg7 (by rw [World.size_alloc]; exact hv7)
            have HS7 := Lib.hid hS7
            have hnx : (candsAt xs (leftL xs t (k + 1))).map plainI = (candsAt xs (leftL xs t k)).map plainI ++ [plainI x] := by
              rw [leftL_yes Hgi.out, candsAt, List.map_append, List.map_append]
              simp [candsAt, candAt_get HX.out]
            have Hnx := Lib.hid hnx
            clear hS7 ho7 hg7 hv7 hnx
            go_wp2_with fail
            go_roundw
            case rel => exact ⟨k + 1, by omega, by go_num, by rw [Hnx.out, leftL_yes Hgi.out]; exact HS7.out⟩
            case measure => simp [intOf]; omega
          · rw [hgi] at d2
            have Hgi := Lib.hid hgi
            clear hgi
            go_wp2_with fail
            go_roundw
            case rel => exact ⟨k + 1, by omega, by go_num, by rw [leftL_no Hgi.out]; exact HS.out.kept ((Below.refl _ _).alloc (Nat.le_refl _) _)⟩
            case measure => simp [intOf]; omega
        · obtain rfl : n = k := by omega
          have hps : leftL xs t n = psAt xs t := by rw [psAt_left xs t (by rw [← HN.out]; omega), ← HN.out]
          have htx : t < xs.length := by rw [← HN.out]; exact hlt
          have hpl := psAt_len xs t (Nat.le_of_lt htx)
          rw [hps] at hS
          obtain ⟨ps, hpse⟩ : ∃ ps, ps = psAt xs t := ⟨_, rfl⟩
          obtain ⟨hbl, hbe⟩ := bAt_lt (xs := xs) (ps := psAt xs t) (by intro h; rw [h] at hpl; simp at hpl; omega)
          have hog := ordAt_get htx
          obtain ⟨r, hr⟩ : ∃ r, r = bAt xs (psAt xs t) := ⟨_, rfl⟩
          rw [← hr, ← hpse] at hbl hog
          rw [← hr, ← hpse] at hbe
          rw [← hpse] at hS
          rw [← Hq.out] at hog
          have hrs : ((candsAt xs ps).map plainI).length = ps.length := by simp [candsAt]
          have hfit : ∀ r ∈ (candsAt xs ps).map plainI, r.Fits := fun r hr => by
            obtain ⟨x, hx, rfl⟩ := List.mem_map.1 hr
            obtain ⟨i, hi, rfl⟩ := List.mem_map.1 hx
            rw [hpse] at hi
            exact HFR.out _ (List.mem_map.2 ⟨_, cand_mem (psAt_lt xs t i hi), rfl⟩)
          have ho : ownR 48 7 rrouteR wr (fun _ => False) wo.heap.size _ ((candsAt xs ps).map plainI) := ⟨_, hS.own7, groups_rows hfit, fun _ _ h => h⟩
          obtain ⟨B, d, rfl⟩ := ho.form
          have hfz := ho.freeze rrouteR_ok
          have hin : InF (fun b => False ∨ (Value.slice B ((candsAt xs ps).map plainI).length d).ownBlock = some b) wr := fun b hb => by
            rcases hb with hb | hb
            · exact hb.elim
            · exact (ho.lt b hb).2
          rw [hrs] at hfz hin ⊢
          have hpn : ps.length ≤ 12 := by rw [hpse, hpl, ← HN.out]; omega
          have hcall := ref_Best wr _ B _ d _ hfz hin (by omega) hfit
          rw [← best_same, hbe] at hcall
          have Hcall := Lib.hid hcall
          have hown8 := hS.own8
          obtain ⟨g8, c8, rfl, hgb8, hgl8⟩ := own_form hown8 (by omega)
          have hrow : wr.rangeAt g8 0 (ps.map placeV) := fun j v hv => by
            obtain ⟨T, hblk, _⟩ := ownsRow_blk hown8
            exact hblk.range j v (by rw [List.getElem?_append_left (List.getElem?_eq_some_iff.1 hv).1]; exact hv)
          have d8 : wr.cell? ⟨g8, 0 + r, none⟩ = some (.int .i64 (q : Int)) := hrow r _ (by rw [List.getElem?_map, hog]; rfl)
          rw [Nat.zero_add] at d8
          have HS := Lib.hid hS
          have Hd8 := Lib.hid d8
          clear hps hpl hog hr hbe hrs hfit ho hfz hin hcall hown8 hrow d8 hS hpse htx d0 d1
          go_wp2_with fail
          refine Hcall.out.mono ?_
          rintro e w9 ⟨rfl, hb9⟩
          have hB9 := below_step HS.out.below hb9
          have d8 := (hb9.cell (p := ⟨g8, r, none⟩) hgl8).trans Hd8.out
          have hblk9 := Hblk.out.below hB9 Hblk.out.lt
          have d9 : w9.cell? ⟨w3.heap.size, q, none⟩ = some (.bool (goneB xs t q)) := by
            rw [hblk9.cell, List.getElem?_toArray, goneV_get (by rw [← HN.out]; exact hql)]
          have f9 := hblk9.free q
          have hqq : ((q : Int) != (q : Int)) = false := by simp
          have hr0' : decide ((r : Int) < 0) = false := decide_eq_false (by omega)
          have Hblk9 := Lib.hid hblk9
          clear hblk9 hb9
          go_wp2_with fail
          go_roundw
          case rel => exact ⟨t + 1, by omega, by go_num, by
            have := Hblk9.out.set_ q (.bool true)
            rwa [show (goneV xs t).set q (.bool true) = goneV xs (t + 1) from by rw [Hq.out, goneV_set (by rw [← HN.out]; exact hlt)]] at this, (below_step hB hB9).setCell (Nat.le_refl _) _⟩
          case measure => simp [intOf]; omega
    · go_wp2_with fail
      go_ret
      exact ⟨rfl, below_step hB3 hB⟩
end Go.Proofs.Ytngfabnkgpidjaa
