/- Rows of headers that have come; policy.union. -/
import Derived.Test.YtjeligbgcofaeaaDoorHdJ
namespace Go.Proofs.YtjeligbgcofaeaaDoor
open Go.RowKit Go.Sort Go.Shelf
set_option linter.unusedVariables false
set_option linter.unusedSimpArgs false

/-- a row of headers, read alone from now on -/
def Hs (w : World) (v : Value) (xs : List OHdr) : Prop := listR 19 hdrO w (fun b => b < w.heap.size) [v] xs
theorem Hs.below {w w' : World} {v : Value} {xs : List OHdr} (h : Hs w v xs) (hb : Below w.heap.size w w') : Hs w' v xs :=
  (listR_ok hdrO_ok).keep h (fun b hF => hb.block b hF) (fun b hF => Nat.lt_of_lt_of_le hF hb.size)
theorem Hs.nil (w : World) : Hs w (.slice none 0 0) [] := listR.nil
theorem Hs.own {w : World} {F : Nat → Prop} {base : Nat} {v : Value} {xs : List OHdr} (h : ownH w F base v xs) (hF : InF F w) : Hs w v xs := by
  have h1 := ownR.freeze hdrO_ok h
  exact (listR_ok hdrO_ok).keep h1 (fun _ _ => rfl) (fun b hb => by
    rcases hb with hb | hb
    · exact hF b hb
    · exact (h.lt b hb).2)
theorem Hs.form {w : World} {v : Value} {xs : List OHdr} (h : Hs w v xs) : ∃ A c, v = .slice A xs.length c := by
  obtain ⟨A, c, e, _⟩ := h
  exact ⟨A, c, by simpa using e⟩
theorem Hs.one {w : World} {g : Nat} (x : OHdr) (h : Blk w g 31 x.1.vals.toArray) : Hs w (.slice (some ⟨g, 0, none⟩) 1 1) [x] := by
  refine ⟨_, _, rfl, Nat.le_refl _, by simp [maxLen], fun k y hy => ?_⟩
  match k, hy with
  | 0, rfl => exact ⟨g, 0, encH x, rfl, h.lt, rfl, h.range⟩
def unionO (xs ys : List OHdr) : List OHdr := compactK eqO (sortO (xs ++ ys)) (xs.length + ys.length)
set_option maxRecDepth 100000 in
set_option maxHeartbeats 2000000 in
theorem pol_union (w : World) (v1 v2 : Value) (xs ys : List OHdr) (hT : Tab w) (h1 : Hs w v1 xs) (h2 : Hs w v2 ys) (hn : xs.length ≤ 1000) (hm : ys.length ≤ 1000) :
    Calls Tryd.prog 60 #[v1, v2] w fun e w' => ∃ v, e = .returned v ∧ Hs w' v (unionO xs ys) ∧ Below w.heap.size w w' := by
  obtain ⟨ic, hic, hc0, hc1, hc2⟩ := info_parts hdr_info
  obtain ⟨A, c, rfl⟩ := h1.form
  obtain ⟨B, d, rfl⟩ := h2.form
  have HT := Lib.hid hT
  have h0 : 0 < w.heap.size := hT.lt
  have hInF : InF (fun b => b < w.heap.size) w := fun b hb => hb
  have HIN := Lib.hid hInF
  have H2 := Lib.hid h2
  have CC := Lib.hid (hd_Clone w _ A xs.length c xs h1 hInF (by omega))
  have h63 : Hid (xs.length + ys.length ≤ 9223372036854775807) := by show _ ≤ _; omega
  have h64 : Hid ((xs.length + ys.length) * 64 ≤ 140737488355328) := by show _ ≤ _; omega
  have HLM : Hid (xs.length + ys.length ≤ 1073741824) := by show _ ≤ _; omega
  obtain ⟨nx, hnx⟩ : ∃ nx, nx = xs.length := ⟨_, rfl⟩
  obtain ⟨ny, hny⟩ : ∃ ny, ny = ys.length := ⟨_, rfl⟩
  have HNX := Lib.hid hnx
  have HNY := Lib.hid hny
  rw [← hnx] at CC
  rw [← hny] at H2
  rw [← hnx, ← hny]
  clear hT h1 h2 hInF hnx hny hn hm
  go_enter Tryd.func60, Tryd.ntmps60
  go_wp2_with (first
    | (go_at_call 70; (with_reducible refine CC.out.mono ?_); rintro e w1 ⟨vc, rfl, ho1, hb1⟩; have HO1 := Lib.hid ho1; have HB1 := Lib.hid hb1; clear ho1 hb1)
    | (at_builtin; refine wpList_pushA _ rfl (.tmp 7) (.tmp 8) 47 rfl hdrO_ok w.heap.size 31 ic _ 64 Tryd.underlying47 hic hc0 hc1 hc2 rfl (by decide) (fun b => b < w.heap.size) _ xs rfl HO1.out B ny d ys rfl ((listR_ok hdrO_ok).below H2.out HB1.out HIN.out) (fun b hb => Nat.lt_of_lt_of_le hb HB1.out.size) (by rw [HNY.out]; exact h63.out) (by rw [HNY.out]; exact h64.out) HB1.out.size ?_
       intro v2 w2 ho2 hg2 _
       obtain ⟨A2, c2, hq2⟩ := ho2.form
       obtain ⟨N2, hN2⟩ : ∃ N, N = (xs ++ ys).length := ⟨_, rfl⟩
       rw [← hN2] at hq2
       subst hq2
       have HB2 := Lib.hid (below_grownK HB1.out hg2 fun g hg => (HO1.out.lt g hg).1)
       have CS := Lib.hid (ownH_Sort w2 _ w.heap.size N2 c2 A2 (xs ++ ys) (HT.out.below HB2.out) h0 ho2 (by rw [hN2, List.length_append]; exact HLM.out))
       have HLT := Lib.hid (fun g hg => (ho2.lt g hg).1)
       have HNN := Lib.hid hN2
       clear ho2 hg2 hN2)
    | (go_at_call 55; (with_reducible refine CS.out.mono ?_); rintro e w3 ⟨rfl, ho3, hg3⟩
       have CK := Lib.hid (ownH_Compact w3 _ w.heap.size N2 c2 A2 _ ho3 (by rw [HNN.out, List.length_append]; exact HLM.out))
       have HB3 := Lib.hid (below_grownK HB2.out hg3 HLT.out)
       clear ho3 hg3)
    | (go_at_call 57; (with_reducible refine CK.out.mono ?_); rintro e w4 ⟨rfl, ho4, hg4⟩; have HO4 := Lib.hid ho4; have HB4 := Lib.hid (below_grownK HB3.out hg4 HLT.out); clear ho4 hg4)
    | fail)
  go_ret
  refine ⟨_, rfl, ?_, HB4.out⟩
  have hfin := Hs.own HO4.out (fun b hb => Nat.lt_of_lt_of_le hb HB4.out.size)
  unfold unionO
  rw [← List.length_append, ← HNN.out]
  exact hfin
end Go.Proofs.YtjeligbgcofaeaaDoor
