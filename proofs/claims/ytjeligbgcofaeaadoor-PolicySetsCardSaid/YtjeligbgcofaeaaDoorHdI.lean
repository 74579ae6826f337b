/- Clone, SortFunc, Compact at rows of headers of the call's own; policy.union. -/
import Derived.Test.YtjeligbgcofaeaaDoorHdH
import Derived.Test.YtjeligbgcofaeaaDoorOwnK
namespace Go.Proofs.YtjeligbgcofaeaaDoor
open Go.RowKit Go.Sort Go.Shelf
set_option linter.unusedVariables false
set_option linter.unusedSimpArgs false

abbrev hdrO : Rep OHdr := encR encH
theorem encH_one (x : OHdr) : ∀ v ∈ encH x, v.oneCell' = true := vals_one x.1
theorem hdrO_ok : hdrO.Ok 19 := encR_ok encH_len encH_one
abbrev ownH (w : World) (F : Nat → Prop) (base : Nat) (v : Value) (xs : List OHdr) : Prop := ownR 31 19 hdrO w F base v xs
theorem hdr_info : (Tryd.prog.info? 31).map (fun i => (i.zero, i.size, i.bytes)) = some (some (.agg zeroH.vals.toArray), 19, 64) := by kernel_rfl

set_option maxRecDepth 100000 in
set_option maxHeartbeats 1000000 in
theorem hd_Clone (w : World) (F : Nat → Prop) (A : Option Addr) (n c : Nat) (xs : List OHdr) (hl : listR 19 hdrO w F [.slice A n c] xs) (hF : InF F w) (hn : n ≤ 1073741824) :
    Calls Tryd.prog 70 #[.slice A n c] w fun e w' => ∃ v, e = .returned v ∧ ownH w' F w.heap.size v xs ∧ Below w.heap.size w w' := by
  obtain ⟨ic, hic, hc0, hc1, hc2⟩ := info_parts hdr_info
  have q22 : ∀ (w : World) (a : Option Addr) (n c n' c' : Nat), (binOp .eql 47 (.slice a n c) (.slice none n' c')).run Tryd.prog w = .ok (.bool a.isNone) w := fun w a n c n' c' => Lib.run_eql_slice_nil w _ _ a n c n' c' Tryd.underlying47
  have hlen := hl.len
  cases A with
  | none =>
    have hy : xs = [] := by
      rcases xs with _ | ⟨y, r⟩
      · rfl
      · obtain ⟨b, off, cs, h, _⟩ := hl.at_ (k := 0) (x := y) rfl
        cases h
    subst hy
    have hn0 : n = 0 := hlen.1
    subst hn0
    clear hl hlen
    go_enter Tryd.func70, Tryd.ntmps70
    go_wp2
    go_ret
    exact ⟨_, rfl, ownR.nil, Below.refl _ _⟩
  | some ad =>
    have Hl := Lib.hid hl
    have Hb := Lib.hid ((Below.refl w.heap.size w).alloc (Nat.le_refl _) (.cells #[] 31))
    have h63 : Hid (([] : List OHdr).length + n ≤ 9223372036854775807) := by show _ ≤ _; simp; omega
    have h64 : Hid ((([] : List OHdr).length + n) * 64 ≤ 140737488355328) := by show _ ≤ _; simp; omega
    clear hl hlen
    go_enter Tryd.func70, Tryd.ntmps70
    go_wp2_with (at_builtin; refine wpList_pushA _ rfl (.tmp 5) (.tmp 6) 47 rfl hdrO_ok w.heap.size 31 ic _ 64 Tryd.underlying47 hic hc0 hc1 hc2 rfl (by decide) F _ [] rfl (ownR.made w _ (Nat.le_refl _) hF) (some ad) n c xs rfl ((listR_ok hdrO_ok).below Hl.out Hb.out hF) (hF.below Hb.out) h63.out h64.out Hb.out.size ?_)
    intro v w' hv hg _
    have Hv := Lib.hid hv
    have Hg := Lib.hid (Hb.out.grown hg Hb.out.size fun g he => by cases he; exact Nat.le_refl _)
    clear hv hg
    go_wp2_with fail
    go_ret
    exact ⟨_, rfl, Hv.out, Hg.out⟩
theorem ownH_Sort (w : World) (F : Nat → Prop) (base n c : Nat) (A : Option Addr) (xs : List OHdr) (hT : Tab w) (h0 : 0 < base) (h : ownH w F base (.slice A n c) xs) (hn : n ≤ 1073741824) :
    Calls Tryd.prog 55 #[.slice A n c, .func (.func 56) #[] #[]] w fun e w' => e = .returned (.tuple #[]) ∧ ownH w' F base (.slice A n c) (sortO xs) ∧ w.grownBy w' (Value.ownBlock (.slice A n c)) := by
  cases A with
  | none =>
    obtain ⟨rfl, rfl, rfl⟩ := own_nilK h
    have hS := AnyF.slices_SortFunc_none (P := Tryd.prog) (ρ := Tryd.laySort_ren) { Tryd.laySort with } none 0 (.func (.func 56) #[] #[]) w
    change Calls Tryd.prog 55 _ _ _ at hS
    refine hS.mono ?_
    rintro e w' ⟨rfl, rfl⟩
    exact ⟨rfl, by simpa [sortO] using h, grownBy_selfK _ _⟩
  | some ad =>
    obtain ⟨g, T, rfl, hb, hF, hblk, hxn, hc, hm, hl⟩ := own_blkK h
    refine (hd_Sort w g n c xs T hT (by omega) hxn hblk hn).mono ?_
    rintro e w' ⟨rfl, h1, h2⟩
    exact ⟨rfl, own_mkK encH_len hb hF h1 (by rw [sortO_len]; exact hxn) hc hm (by rw [List.length_append, cellsK_len encH_len, sortO_len, ← hl, List.length_append, cellsK_len encH_len]), h2⟩
theorem hd_CompactNil (w : World) :
    Calls Tryd.prog 57 #[.slice none 0 0] w fun e w' => e = .returned (.slice none 0 0) ∧ w' = w := by
  go_enter Tryd.func57, Tryd.ntmps57
  go_wp2_with fail
  go_ret
  exact ⟨rfl, rfl⟩
theorem ownH_Compact (w : World) (F : Nat → Prop) (base n c : Nat) (A : Option Addr) (xs : List OHdr) (h : ownH w F base (.slice A n c) xs) (hn : n ≤ 1073741824) :
    Calls Tryd.prog 57 #[.slice A n c] w fun e w' => e = .returned (.slice A (compactK eqO xs n).length c) ∧ ownH w' F base (.slice A (compactK eqO xs n).length c) (compactK eqO xs n) ∧ w.grownBy w' (Value.ownBlock (.slice A n c)) := by
  cases A with
  | none =>
    obtain ⟨rfl, rfl, rfl⟩ := own_nilK h
    refine (hd_CompactNil w).mono ?_
    rintro e w' ⟨rfl, rfl⟩
    exact ⟨rfl, h, grownBy_selfK _ _⟩
  | some ad =>
    obtain ⟨g, T, rfl, hb, hF, hblk, hxn, hc, hm, hl⟩ := own_blkK h
    refine (hd_Compact w g n c xs T hxn hblk hn hc).mono ?_
    rintro e w' ⟨T', rfl, h1, h2, h3⟩
    exact ⟨rfl, own_mkK encH_len hb hF h1 rfl (Nat.le_trans (compactK_le xs n) hc) hm (by rw [h2, hl]), h3⟩
end Go.Proofs.YtjeligbgcofaeaaDoor
