/- The reference's keep: those of the least number. -/
import Derived.Test.YtngfabnkgpidjaaLawPlains
import Derived.Deep.QuietTactic
import Derived.BigQuiet
namespace Go.Proofs.Ytngfabnkgpidjaa
open Go.RowKit
set_option linter.unusedVariables false

def numAt (num : List Int) (i : Nat) : Int := num.getD i 0
def keepP (num : List Int) (left : List Nat) (i : Nat) : Bool := left.all fun k => !decide (numAt num k < numAt num i)
def keepL (num : List Int) (left : List Nat) : List Nat := left.filter (keepP num left)
def placeV (i : Nat) : Value := .int .i64 (i : Int)
def placeI (i : Nat) : Int := (i : Int)
theorem below_dn2 {n : Nat} {a w : World} (h : Below n a w) (k : Nat) : Below n a (w.drewN k) := h.trans ⟨rfl, rfl, rfl, Nat.le_refl _, fun _ _ => rfl⟩
theorem fil_yes {p : Nat → Bool} {l : List Nat} {k i : Nat} (hx : l[k]? = some i) (hp : p i = true) : (l.take (k + 1)).filter p = (l.take k).filter p ++ [i] := by
  rw [List.take_add_one, hx, List.filter_append]
  simp [hp]
theorem fil_no {p : Nat → Bool} {l : List Nat} {k i : Nat} (hx : l[k]? = some i) (hp : p i = false) : (l.take (k + 1)).filter p = (l.take k).filter p := by
  rw [List.take_add_one, hx, List.filter_append]
  simp [hp]
theorem all_snoc {p : Nat → Bool} {l : List Nat} {k i : Nat} (hx : l[k]? = some i) : (l.take (k + 1)).all p = ((l.take k).all p && p i) := by
  rw [List.take_add_one, hx, List.all_append]
  simp
theorem numAt_of {num : List Int} {i : Nat} {y : Int} (h : num[i]? = some y) : numAt num i = y := by simp [numAt, List.getD, h]

set_option maxHeartbeats 4000000 in
theorem ref_keep (w : World) (F : Nat → Prop) (A B : Option Addr) (n c m d : Nat) (left : List Nat) (num : List Int) (hl : listR 1 (intR .i64) w F [.slice A n c] (left.map placeI)) (hu : listR 1 (intR .i64) w F [.slice B m d] num) (hF : InF F w) (hn : n ≤ 1048576) (hb : ∀ i ∈ left, i < m) :
    Calls Try.prog 29 #[.slice A n c, .slice B m d] w fun e w' => ∃ v, e = .returned v ∧ w'.ownsRow w.heap.size 3 1 v (keepL num left).length ((keepL num left).map placeV) ∧ Below w.heap.size w w' := by
  have HN := Lib.hid (show n = left.length by have := hl.len.1; simpa using this)
  have HM := Lib.hid hu.len.1
  have hmm : m ≤ 9223372036854775807 := Nat.le_trans (Nat.le_trans hu.len.2.1 hu.len.2.2) (by decide)
  have Hl := Lib.hid hl
  have Hu := Lib.hid hu
  have Hb := Lib.hid hb
  obtain ⟨i0, hi0, hz0, hz1, hz2⟩ := info_parts int_info
  clear hl hu hb
  go_enter Try.func29, Try.ntmps29
  go_wp2_with fail
  go_loopw [5, 14] (fun v i wr => ∃ k : Nat, k ≤ n ∧ i = .int .i64 k ∧ wr.ownsRow w.heap.size 3 1 v ((left.take k).filter (keepP num left)).length (((left.take k).filter (keepP num left)).map placeV) ∧ Below w.heap.size w wr) (fun _ i _ => n - (intOf i).toNat)
  case atStart => exact ⟨0, Nat.zero_le _, rfl, own_made1 w _ _, (Below.refl _ _).alloc (Nat.le_refl _) _⟩
  case round =>
    obtain ⟨k, hk, rfl, hown, hB⟩ := hrel
    by_cases hlt : k < n
    · obtain ⟨i, hx⟩ : ∃ i, left[k]? = some i := ⟨_, List.getElem?_eq_getElem (by rw [← HN.out]; exact hlt)⟩
      have him : i < m := Hb.out i (List.mem_of_getElem? hx)
      obtain ⟨b, off, cs, rfl, hFb, ⟨rfl, _⟩, hr⟩ := Hl.out.at_ (k := k) (x := placeI i) (by rw [List.getElem?_map, hx]; rfl)
      obtain ⟨y, hy⟩ : ∃ y, num[i]? = some y := ⟨_, List.getElem?_eq_getElem (by rw [← HM.out]; exact him)⟩
      obtain ⟨b2, off2, cs2, rfl, hFb2, ⟨rfl, _⟩, hr2⟩ := Hu.out.at_ hy
      have C0 : wr.cell? ⟨b, off + k, none⟩ = some (.int .i64 (i : Int)) := by
        have := (hB.cell (p := ⟨b, off + k * 1, none⟩) (hF b hFb)).trans (hr 0 _ rfl)
        rwa [Nat.mul_one] at this
      have hfl : ((left.take k).filter (keepP num left)).length ≤ n := by
        have h1 := List.length_filter_le (keepP num left) (left.take k)
        have h2 : (left.take k).length ≤ k := by rw [List.length_take]; omega
        omega
      obtain ⟨fl, hfe⟩ : ∃ fl, ((left.take k).filter (keepP num left)).length = fl := ⟨_, rfl⟩
      have HFE := Lib.hid hfe
      rw [hfe] at hown hfl
      obtain ⟨VA, VC, rfl⟩ := own_val hown
      have HX := Lib.hid hx
      have HY := Lib.hid hy
      have HR2 := Lib.hid hr2
      have Hown := Lib.hid hown
      clear hr hr2 hx hy hown hfe
      obtain ⟨wo, rfl⟩ : ∃ wo : World, wo = wr := ⟨_, rfl⟩
      go_wp2_with fail
      go_loopw [8, 20] (fun f j w2 => ∃ (q : Nat) (fb : Bool), q ≤ n ∧ j = .int .i64 q ∧ f = .bool fb ∧ Hid (fb = (left.take q).all fun t => !decide (numAt num t < y)) ∧ Hid (w2.ownsRow w.heap.size 3 1 (.slice VA fl VC) fl (((left.take k).filter (keepP num left)).map placeV)) ∧ Below w.heap.size w w2) (fun _ i _ => n - (intOf i).toNat)
      case atStart => exact ⟨0, true, Nat.zero_le _, rfl, rfl, Lib.hid rfl, Hown, hB⟩
      case round =>
        obtain ⟨q, fb, hq, rfl, rfl, HFB, Hown2, hB2⟩ := hrel
        by_cases hlt2 : q < n
        · obtain ⟨t, hx2⟩ : ∃ t, left[q]? = some t := ⟨_, List.getElem?_eq_getElem (by rw [← HN.out]; exact hlt2)⟩
          have htm : t < m := Hb.out t (List.mem_of_getElem? hx2)
          obtain ⟨b3, off3, cs3, he3, hFb3, ⟨rfl, _⟩, hr3⟩ := Hl.out.at_ (k := q) (x := placeI t) (by rw [List.getElem?_map, hx2]; rfl)
          obtain ⟨rfl, rfl⟩ : b = b3 ∧ off = off3 := by simp only [Option.some.injEq, Addr.mk.injEq] at he3; exact ⟨he3.1, he3.2.1⟩
          obtain ⟨z, hz⟩ : ∃ z, num[t]? = some z := ⟨_, List.getElem?_eq_getElem (by rw [← HM.out]; exact htm)⟩
          obtain ⟨b4, off4, cs4, he4, hFb4, ⟨rfl, _⟩, hr4⟩ := Hu.out.at_ hz
          obtain ⟨rfl, rfl⟩ : b2 = b4 ∧ off2 = off4 := by simp only [Option.some.injEq, Addr.mk.injEq] at he4; exact ⟨he4.1, he4.2.1⟩
          have C1 : wr.cell? ⟨b, off + q, none⟩ = some (.int .i64 (t : Int)) := by
            have := (hB2.cell (p := ⟨b, off + q * 1, none⟩) (hF b hFb)).trans (hr3 0 _ rfl)
            rwa [Nat.mul_one] at this
          have C2 : wr.cell? ⟨b2, off2 + t, none⟩ = some (.int .i64 z) := by
            have := (hB2.cell (p := ⟨b2, off2 + t * 1, none⟩) (hF b2 hFb2)).trans (hr4 0 _ rfl)
            rwa [Nat.mul_one] at this
          have C3 : wr.cell? ⟨b2, off2 + i, none⟩ = some (.int .i64 y) := by
            have := (hB2.cell (p := ⟨b2, off2 + i * 1, none⟩) (hF b2 hFb2)).trans (HR2.out 0 _ rfl)
            rwa [Nat.mul_one] at this
          have HS := Lib.hid (all_snoc (p := fun t => !decide (numAt num t < y)) hx2)
          have HZ := Lib.hid (numAt_of hz)
          clear hr3 hr4 he3 he4 hx2 hz C0
          cases hc : decide (z < y)
          · have HC := Lib.hid hc
            go_wp2_with fail
            go_quiet (fail)
            go_wp2_with fail
            go_roundw
            case rel => exact ⟨q + 1, fb, by omega, by go_num, rfl, Lib.hid (by rw [HS.out, ← HFB.out, HZ.out, HC.out]; simp), Lib.hid (Hown2.out.kept (grownBy_of_below (below_dn2 (Below.refl _ _) _)) (own_ne _)), below_dn2 hB2 _⟩
            case measure => simp [intOf]; omega
          · have HC := Lib.hid hc
            go_wp2_with fail
            go_quiet (fail)
            go_wp2_with fail
            go_roundw
            case rel => exact ⟨q + 1, false, by omega, by go_num, rfl, Lib.hid (by rw [HS.out, HZ.out, HC.out]; simp), Lib.hid (Hown2.out.kept (grownBy_of_below (below_dn2 (Below.refl _ _) _)) (own_ne _)), below_dn2 hB2 _⟩
            case measure => simp [intOf]; omega
        · have hqn : q = n := by omega
          have HK := Lib.hid (show fb = keepP num left i by
            have h1 := HFB.out
            rw [List.take_of_length_le (by have := HN.out; omega)] at h1
            rw [h1, keepP, numAt_of HY.out])
          have hown3 := Hown2.out
          cases fb
          · go_wp2_with fail
            go_roundw
            case rel => exact ⟨k + 1, by omega, by go_num, by rw [fil_no HX.out HK.out.symm, HFE.out]; exact hown3, hB2⟩
            case measure => simp [intOf]; omega
          · go_wp2_with (at_builtin; refine wpList_append_own _ rfl (.tmp 35) (.tmp 37) _ rfl w.heap.size 3 i0 (.int .i64 0) 1 8 Try.underlying28 hi0 hz0 hz1 hz2 rfl (by decide) _ _ _ rfl (hown3.alloc _) ⟨wr.heap.size, 0, none⟩ 1 1 [.int .i64 (i : Int)] rfl rfl ?c1 ?c2 ?c3 ?c4 ?c5 ?_)
            case c1 => exact cell_one_new _ _ _
            case c2 => simp [Value.oneCell']
            case c3 => simp only [maxLen]; omega
            case c4 => omega
            case c5 => have := hB2.size; simp; omega
            intro v3 w3 hown4 hg3 _
            have hB4 : Below w.heap.size w w3 := (hB2.alloc hB2.size _).grown hg3 (by have := hB2.size; simp; omega) (fun g hgg => (hown3.lt g hgg).1)
            go_wp2_with fail
            go_roundw
            case rel => exact ⟨k + 1, by omega, by go_num, by rw [fil_yes HX.out HK.out.symm, List.length_append, HFE.out, List.map_append]; exact hown4, hB4⟩
            case measure => simp [intOf]; omega
    · obtain rfl : n = k := by omega
      go_wp2_with fail
      go_ret
      refine ⟨_, rfl, ?_, hB⟩
      have := HN.out
      rwa [List.take_of_length_le (by omega)] at hown
end Go.Proofs.Ytngfabnkgpidjaa
