/- choose.Order returns the routes' places, the best first. -/
import Derived.Test.YtngfabnkgpidjaaOrderA
import Derived.OwnWalk
namespace Go.Proofs.Ytngfabnkgpidjaa
open Go.RowKit
set_option linter.unusedVariables false

theorem cand_info : (Try.prog.info? 35).map (fun i => (i.zero, i.size, i.bytes)) = some (some (.agg #[.int .i64 0, .int .u32 0, .int .i64 0, .int .i64 0, .int .i64 0, .slice none 0 0, .int .u32 0, .int .i64 0, .int .i64 0, .int .i64 0, .int .u32 0, .slice none 0 0, .slice none 0 0, .int .u32 0]), 14, 160) := by kernel_rfl

def fillV (n k : Nat) : List Value := (List.range n).map fun i => if i < k then placeV i else .int .i64 0
theorem fillV_len (n k : Nat) : (fillV n k).length = n := by simp [fillV]
theorem fillV_zero (n : Nat) : fillV n 0 = List.replicate n (.int .i64 0) := by
  apply List.ext_getElem
  · simp [fillV]
  · intro i h1 h2
    simp [fillV]
theorem fillV_set {n k : Nat} (hk : k < n) : (fillV n k).set k (placeV k) = fillV n (k + 1) := by
  apply List.ext_getElem
  · simp [fillV]
  · intro i h1 h2
    simp only [List.getElem_set, fillV, List.getElem_map, List.getElem_range]
    by_cases h : k = i
    · subst h; simp
    · rw [if_neg h]
      by_cases h3 : i < k
      · rw [if_pos h3, if_pos (by omega)]
      · rw [if_neg h3, if_neg (by omega)]
theorem fillV_all (n : Nat) : fillV n n = (List.range n).map placeV := List.map_congr_left fun i hi => by rw [if_pos (List.mem_range.1 hi)]
theorem made_zeros (n : Nat) : (madeCells #[Value.int .i64 0] n).toList = List.replicate n (.int .i64 0) := by
  apply List.ext_getElem
  · simp [madeCells]
  · intro i h1 h2
    simp [madeCells, Nat.mod_one]

def lenOf : Value → Nat
  | .slice _ n _ => n
  | _ => 0
theorem eraseIdx_map {α β : Type} (f : α → β) (l : List α) (k : Nat) : (l.map f).eraseIdx k = (l.eraseIdx k).map f := by
  rw [List.eraseIdx_eq_take_drop_succ, List.eraseIdx_eq_take_drop_succ, List.map_append, List.map_take, List.map_drop]
structure OrdSt (w wr : World) (xs : List Cand) (j m : Nat) (v3 : Value) (g c4 : Nat) : Prop where
  own3 : wr.ownsRow w.heap.size 3 1 v3 j ((ordL xs j).map placeV)
  own4 : wr.ownsRow w.heap.size 3 1 (.slice (some ⟨g, 0, none⟩) m c4) m ((psAt xs j).map placeV)
  ne : v3.ownBlock ≠ some g
  below : Below w.heap.size w wr
theorem grown_ne {w w' : World} {row : Option Nat} {v : Value} (h : w.grownBy w' row) (hne : v.ownBlock ≠ row) : v.ownBlock = none ∨ v.ownBlock ≠ row := .inr hne

set_option maxHeartbeats 4000000 in
theorem choose_Order (w : World) (F : Nat → Prop) (A : Option Addr) (n c : Nat) (xs : List Cand) (hl : listR 14 candR w F [.slice A n c] xs) (hF : InF F w) (hn : n ≤ 1048576) (hg : ∀ x ∈ xs, x.Good) :
    Calls Try.prog 17 #[.slice A n c] w fun e w' => ∃ v, e = .returned v ∧ w'.ownsRow w.heap.size 3 1 v n ((ordL xs n).map placeV) ∧ Below w.heap.size w w' := by
  have HN := Lib.hid hl.len.1
  have Hl := Lib.hid hl
  have Hg := Lib.hid hg
  obtain ⟨i0, hi0, hz0, hz1, hz2⟩ := info_parts int_info
  obtain ⟨ic, hic, hc0, hc1, hc2⟩ := info_parts cand_info
  clear hl hg
  go_enter Try.func17, Try.ntmps17
  go_wp2_with (at_make; refine wpList_make_full _ rfl _ _ 28 rfl w.heap.size 3 i0 (.int .i64 0) 1 Try.underlying28 hi0 hz0 hz1 .i64 .i64 n n n rfl rfl rfl rfl ?b2 ?b3 ?b4 ?_)
  case b2 => rw [hz2]; omega
  case b3 => unfold maxLen; omega
  case b4 => exact Nat.le_refl _
  intro w0 hown0 hg0
  have hb0 : Below w.heap.size w w0 := ⟨hg0.os, hg0.tape, hg0.output, hg0.size, fun k hk => hg0.block k hk (by simp)⟩
  have hblk0 : Blk w0 w.heap.size 3 (fillV n 0).toArray := by
    obtain ⟨T, hb, _, _, _, h1, h2⟩ := ownsRow_blk hown0
    have : T = [] := by
      apply List.eq_nil_of_length_eq_zero
      rw [List.length_append] at h1
      omega
    rw [this, List.append_nil, made_zeros, ← fillV_zero] at hb
    exact hb
  clear hown0 hg0
  go_wp2_with fail
  go_loopw [15] (fun i wr => ∃ k : Nat, k ≤ n ∧ i = .int .i64 k ∧ Blk wr w.heap.size 3 (fillV n k).toArray ∧ Below w.heap.size w wr) (fun i _ => n - (intOf i).toNat)
  case atStart => exact ⟨0, Nat.zero_le _, rfl, hblk0, hb0⟩
  case round =>
    obtain ⟨k, hk, rfl, hblk, hB⟩ := hrel
    by_cases hlt : k < n
    · obtain ⟨u, hu⟩ : ∃ u, (fillV n k)[k]? = some u := ⟨_, List.getElem?_eq_getElem (by rw [fillV_len]; exact hlt)⟩
      have c0 : wr.cell? ⟨w.heap.size, k, none⟩ = some u := by rw [hblk.cell, List.getElem?_toArray, hu]
      have f0 := hblk.free k
      clear hu hblk0 hb0
      have Hblk := Lib.hid hblk
      clear hblk
      go_wp2_with fail
      go_roundw
      case rel => exact ⟨k + 1, by omega, by go_num, by have := Hblk.out.set_ k (placeV k); rwa [fillV_set hlt] at this, hB.setCell (Nat.le_refl _) _⟩
      case measure => simp [intOf]; omega
    · obtain rfl : n = k := by omega
      clear hblk0 hb0
      have hst : OrdSt w wr xs 0 n (.slice none 0 0) w.heap.size n := ⟨World.ownsRow_nil _ _ _ _, by
        have : psAt xs 0 = List.range n := by rw [psAt, HN.out]
        rw [this, ← fillV_all]
        exact blk_ownsRow (T := []) (by rw [List.append_nil]; exact hblk) (Nat.le_refl _) (Nat.le_refl _) (by unfold maxLen; omega) (by simp [fillV]) (by simp [fillV]), by simp [Value.ownBlock], hB⟩
      clear hblk hB hlt hk
      go_wp2_with fail
      go_loopw [3, 4] (fun v3 v4 wr => ∃ (j m g c4 : Nat), j + m = n ∧ v4 = .slice (some ⟨g, 0, none⟩) m c4 ∧ OrdSt w wr xs j m v3 g c4) (fun _ v _ => lenOf v)
      case atStart => exact ⟨0, n, w.heap.size, n, by omega, rfl, hst⟩
      case round =>
        obtain ⟨j, m, g, c4, hj, rfl, S⟩ := hrel
        clear hst
        have Hj := Lib.hid hj
        have hmn : m ≤ n := by omega
        have hm20 : m ≤ 1048576 := by omega
        clear hj
        by_cases hlt : 0 < m
        · have hpl : (psAt xs j).length = m := by have := Hj.out; have := HN.out; rw [psAt_len xs j (by omega)]; omega
          have HPL := Lib.hid hpl
          obtain ⟨T, hblk, hgb, hnc, hcm, hlen, hln⟩ := ownsRow_blk S.own4
          have hrow : wr.rangeAt g 0 ((psAt xs j).map placeV) := fun i v hv => by
            have := hblk.range i v (by rw [List.getElem?_append_left (List.getElem?_eq_some_iff.1 hv).1]; exact hv)
            exact this
          have hgl := hblk.lt
          have HS := Lib.hid S
          have Hrow := Lib.hid hrow
          have hdz : decide (0 < m) = true := decide_eq_true hlt
          have hFw : InF F wr := hF.below S.below
          have hlr := (listR_ok candR_ok).below Hl.out S.below hF
          have Hlr := Lib.hid hlr
          clear hpl hblk hlen hln hrow S hcm hlr
          go_wp2_with fail
          obtain ⟨wo, hwo⟩ : ∃ wo : World, wo = wr := ⟨_, rfl⟩
          subst hwo
          go_loopw [6, 28] (fun v6 i wi => ∃ k : Nat, k ≤ m ∧ i = .int .i64 k ∧ ownR 35 14 candR wi F wo.heap.size v6 (candsAt xs ((psAt xs j).take k)) ∧ Below wo.heap.size wo wi) (fun _ i _ => m - (intOf i).toNat)
          case atStart => exact ⟨0, Nat.zero_le _, rfl, ownR.nil, Below.refl _ _⟩
          case round =>
            obtain ⟨k, hk, rfl, hown, hB⟩ := hrel
            by_cases hlk : k < m
            · obtain ⟨i, hi⟩ : ∃ i, (psAt xs j)[k]? = some i := ⟨_, List.getElem?_eq_getElem (by rw [HPL.out]; exact hlk)⟩
              have hin : i < n := by rw [HN.out]; exact psAt_lt xs j i (List.mem_of_getElem? hi)
              have h1 : wo.cell? ⟨g, 0 + k, none⟩ = some (.int .i64 i) := Hrow.out k _ (by rw [List.getElem?_map, hi]; rfl)
              rw [Nat.zero_add] at h1
              have c0 := (hB.cell (p := ⟨g, k, none⟩) hgl).trans h1
              obtain ⟨x, hx⟩ : ∃ x, xs[i]? = some x := ⟨_, List.getElem?_eq_getElem (by rw [← HN.out]; exact hin)⟩
              obtain ⟨b, off, cs, rfl, hFb, hR, hr⟩ := Hlr.out.at_ hx
              have hR2 := candR_ok.below hR hB hFw
              obtain ⟨A1, n1, c1, A2, n2, c2, A3, n3, c3, rfl⟩ := hR.lit
              obtain ⟨l1, l2⟩ := cells_now (rangeAt_below hr hB (hFw b hFb))
              have HR := Lib.hid hR2
              have Hown := Lib.hid hown
              have hstep : candsAt xs ((psAt xs j).take (k + 1)) = candsAt xs ((psAt xs j).take k) ++ [x] := by
                rw [List.take_add_one, hi, candsAt, List.map_append]
                simp [candsAt, candAt_get hx]
              have Hstep := Lib.hid hstep
              have hcl : (candsAt xs ((psAt xs j).take k)).length = k := by simp [candsAt, HPL.out]; omega
              have Hcl := Lib.hid hcl
              have HFi := Lib.hid (hFw.below hB)
              clear hi h1 hx hR hr hR2 hown hstep hcl
              go_wp2_with (at_builtin; refine wpList_push _ rfl (.tmp 32) (.tmp 37) _ rfl candR_ok wo.heap.size 35 ic _ 160 Try.underlying40 hic hc0 hc1 hc2 rfl (by decide) F _ _ rfl (Hown.out.below candR_ok ?c0 HFi.out) ⟨_, 0, none⟩ 1 1 _ [x] rfl rfl (cells_row_new _ _ _) (Groups.single ?c1) ?c2 ?c3 (by decide) ?c4 ?_)
              case c0 => exact (Below.refl _ _).alloc (Nat.le_refl _) _
              case c1 => exact candR_ok.below HR.out ((Below.refl _ _).alloc (Nat.le_refl _) _) HFi.out
              case c2 => exact HFi.out.below ((Below.refl _ _).alloc (Nat.le_refl _) _)
              case c3 => rw [Hcl.out]; omega
              case c4 => have := hB.size; simp; omega
              intro v6' w6 hown6 hg6 _
              have hbi : Below wo.heap.size wo w6 := (hB.alloc hB.size _).grown hg6 (by have := hB.size; simp; omega) fun g6 he => (Hown.out.lt g6 he).1
              clear c0 l1 l2 hg6
              go_wp2_with fail
              go_roundw
              case rel => exact ⟨k + 1, by omega, by go_num, by rw [Hstep.out]; exact hown6, hbi⟩
              case measure => simp [intOf]; omega
            · obtain rfl : m = k := by omega
              rw [List.take_of_length_le (by rw [HPL.out]; omega)] at hown
              have hfz := hown.freeze candR_ok
              obtain ⟨A6, c6, rfl⟩ := hown.form
              have hlen6 : (candsAt xs (psAt xs j)).length = m := by simp [candsAt, HPL.out]
              rw [hlen6] at hfz hown
              have hin6 : InF (fun b => F b ∨ (Value.slice A6 m c6).ownBlock = some b) wr := fun b hb => by
                rcases hb with hb | hb
                · exact hFw.below hB b hb
                · exact (hown.lt b hb).2
              have hlt6 : ∀ b, (Value.slice A6 m c6).ownBlock = some b → wo.heap.size ≤ b := fun b hb => (hown.lt b hb).1
              obtain ⟨hbl, hbe⟩ := bAt_lt (xs := xs) (ps := psAt xs j) (by intro h; have := HPL.out; rw [h] at this; simp at this; omega)
              rw [HPL.out] at hbl
              obtain ⟨q, hq⟩ : ∃ q, q = bAt xs (psAt xs j) := ⟨_, rfl⟩
              rw [← hq] at hbl hbe
              have hcall := best_of wr _ A6 m c6 _ hfz hin6 hm20 (candsAt_good Hg.out (psAt_lt xs j))
              rw [hbe] at hcall
              have Hq := Lib.hid hq
              have Hcall := Lib.hid hcall
              rw [hlen6]
              clear hfz hown hin6 hlt6 hq hbe hcall hlk
              go_wp2_with fail
              refine Hcall.out.mono ?_
              rintro e w7 ⟨rfl, hb7⟩
              have hB7 := below_step hB hb7
              have hpq : (psAt xs j)[q]? = some (ordAt xs j) := by
                have h1 : (psAt xs j)[q]? = some ((psAt xs j)[q]'(by rw [HPL.out]; exact hbl)) := List.getElem?_eq_getElem _
                rw [h1, ordAt, ← Hq.out, List.getD_eq_getElem?_getD, h1]
                rfl
              have h1 : wo.cell? ⟨g, 0 + q, none⟩ = some (.int .i64 (ordAt xs j : Int)) := Hrow.out q _ (by rw [List.getElem?_map, hpq]; rfl)
              rw [Nat.zero_add] at h1
              have c7 := (hB7.cell (p := ⟨g, q, none⟩) hgl).trans h1
              have Hown3 := Lib.hid (HS.out.own3.kept (grownBy_of_below hB7) (own_ne _))
              have Hown4 := Lib.hid (HS.out.own4.kept (grownBy_of_below hB7) (own_ne _))
              have Hb7 := Lib.hid (below_step HS.out.below hB7)
              have hsz7 := Hb7.out.size
              clear h1 hpq
              go_wp2_with (at_builtin; refine wpList_push_own _ rfl (.tmp 42) (.tmp 47) _ rfl w.heap.size 3 i0 (.int .i64 0) 1 8 Try.underlying28 hi0 hz0 hz1 hz2 rfl (by decide) _ _ _ rfl (Hown3.out.alloc _) ⟨_, 0, none⟩ 1 1 [.int .i64 (ordAt xs j : Int)] rfl rfl ?c1 ?c2 ?c3 (by decide) ?c4 ?_)
              case c1 => exact cell_one_new _ _ _
              case c2 => simp [Value.oneCell']
              case c3 => have := Hj.out; omega
              case c4 => simp; omega
              intro v3' w8 hown8 hg8 hv8
              have hne8 : v3'.ownBlock ≠ some g := by
                have h0 := HS.out.ne
                have h2 := hB7.size
                rcases hv8 with e | e
                · rw [e]; exact h0
                · rw [e]; intro h; cases h; omega
              have hown48 : w8.ownsRow w.heap.size 3 1 (.slice (some ⟨g, 0, none⟩) m c4) m ((psAt xs j).map placeV) := (Hown4.out.alloc _).kept hg8 (.inr (fun e => HS.out.ne e.symm))
              have hb8 := (Hb7.out.alloc hsz7 (.cells #[.int .i64 (ordAt xs j : Int)] 3)).grown hg8 (by simp; omega) fun g6 he => (Hown3.out.lt g6 he).1
              rw [placeV_map] at hown48
              have hL : Hid (((psAt xs j).map placeI).length = m) := by rw [List.length_map]; exact HPL.out
              have Hdel := Lib.hid (delete_int w8 w.heap.size g m c4 q _ hL hown48 hm20 hbl)
              have Hown8 := Lib.hid hown8
              clear hown8 hg8 hv8 hown48 c7
              go_wp2_with fail
              refine Hdel.out.mono ?_
              rintro e w9 ⟨rfl, hown9, hg9⟩
              have hst : OrdSt w w9 xs (j + 1) (m - 1) v3' g c4 := ⟨by rw [ordL_succ, List.map_append]; exact Hown8.out.kept hg9 (.inr hne8), by rw [psAt, ← Hq.out, placeV_map, ← eraseIdx_map]; exact hown9, hne8, hb8.trans (grownBy_below hg9 hgb hb8.size)⟩
              have Hst := Lib.hid hst
              clear hst hown9 hg9
              go_wp2_with fail
              go_roundw
              case rel => exact ⟨j + 1, m - 1, g, c4, by have := Hj.out; omega, rfl, Hst.out⟩
              case measure => simp [lenOf]; omega
        · have Hs := Lib.hid S
          clear S
          go_wp2_with fail
          go_ret
          obtain rfl : j = n := by have := Hj.out; omega
          exact ⟨_, rfl, Hs.out.own3, Hs.out.below⟩
end Go.Proofs.Ytngfabnkgpidjaa
