/- The library's MinFunc over ints, and the two closures of choose.Best. -/
import Derived.Test.YtngfabnkgpidjaaChooseC
import Derived.Maps.OwnSet
import Derived.Maps.OwnOps
namespace Go.Proofs.Ytngfabnkgpidjaa
open Go.RowKit
set_option linter.unusedVariables false

def RankOk (f : FuncId) (pa : Value) (w : World) (L : List Int) (cf : Int → Int → Int) : Prop :=
  ∀ (W : World) (i k : Int), Below w.heap.size w W → i ∈ L → k ∈ L → Calls Try.prog f #[.int .i64 i, .int .i64 k, pa] W fun e w' => e = .returned (.int .i64 (cf i k)) ∧ Below W.heap.size W w'

set_option maxHeartbeats 1000000 in
theorem minFunc_int (w : World) (g n c : Nat) (L : List Int) (hl : Hid (L.length = n)) (hr : w.rangeAt g 0 (L.map (Value.int .i64))) (hn0 : 0 < n) (hn : n ≤ 1048576) (pa : Value) (cf : Int → Int → Int) (d : Int)
    (hp : RankOk 24 pa w L cf) :
    Calls Try.prog 23 #[.slice (some ⟨g, 0, none⟩) n c, .func (.func 24) #[] #[pa]] w fun e w' =>
      e = .returned (.int .i64 (bestBy cf d L)) ∧ Below w.heap.size w w' := by
  obtain ⟨x0, hx0⟩ : ∃ x, L[0]? = some x := ⟨_, List.getElem?_eq_getElem (by rw [hl.out]; exact hn0)⟩
  have hc0 : w.cell? ⟨g, 0, none⟩ = some (.int .i64 x0) := hr 0 _ (by rw [List.getElem?_map, hx0]; rfl)
  have hz : decide ((n : Int) < 1) = false := by simp; omega
  have Hx0 := Lib.hid hx0
  have Hr := Lib.hid hr
  clear hr hx0
  go_enter Try.func23, Try.ntmps23
  go_wp2_with fail
  go_loopw [5, 6] (fun m i wr => ∃ (k : Nat) (x : Int), k ≤ n ∧ 1 ≤ k ∧ i = .int .i64 k ∧ m = .int .i64 x ∧ x = bestBy cf d (L.take k) ∧ x ∈ L ∧ Below w.heap.size w wr) (fun _ i _ => n - (intOf i).toNat)
  case atStart => exact ⟨1, x0, hn0, Nat.le_refl _, rfl, rfl, by rw [take_snoc Hx0.out]; rfl, List.mem_of_getElem? Hx0.out, Below.refl _ _⟩
  case round =>
    obtain ⟨k, m, hk, hk1, rfl, rfl, hm, hmx, hB⟩ := hrel
    have Hm := Lib.hid hm
    clear hm
    by_cases hlt : k < n
    · obtain ⟨x, hx⟩ : ∃ x, L[k]? = some x := ⟨_, List.getElem?_eq_getElem (by rw [hl.out]; exact hlt)⟩
      have h1 : w.cell? ⟨g, 0 + k, none⟩ = some (.int .i64 x) := Hr.out k _ (by rw [List.getElem?_map, hx]; rfl)
      rw [Nat.zero_add] at h1
      have hgl := World.block_lt_of_cell? w _ h1
      have c1 := (hB.cell (p := ⟨g, k, none⟩) hgl).trans h1
      have Hx := Lib.hid hx
      have HS := Lib.hid (bestBy_take cf d hx hk1)
      have H1 := Lib.hid h1
      clear hx h1
      go_wp2_with fail
      refine (hp wr x m hB (List.mem_of_getElem? Hx.out) hmx).mono ?_
      rintro e w1 ⟨rfl, hb1⟩
      have hB1 := below_step hB hb1
      have c2 := (hB1.cell (p := ⟨g, k, none⟩) hgl).trans H1.out
      clear c1
      by_cases hc : cf x m < 0
      · have hcd : decide (cf x m < 0) = true := by simpa using hc
        have HC := Lib.hid hc
        go_wp2_with fail
        go_roundw
        case rel => exact ⟨k + 1, x, by omega, by omega, by go_num, rfl, by rw [HS.out, ← Hm.out, if_pos (by have := HC.out; omega)], List.mem_of_getElem? Hx.out, hB1⟩
        case measure => simp [intOf]; omega
      · have hcd : decide (cf x m < 0) = false := by simpa using hc
        have HC := Lib.hid hc
        go_wp2_with fail
        go_roundw
        case rel => exact ⟨k + 1, m, by omega, by omega, by go_num, rfl, by rw [HS.out, ← Hm.out, if_neg (by have := HC.out; omega)], hmx, hB1⟩
        case measure => simp [intOf]; omega
    · have hm2 : m = bestBy cf d L := by rw [Hm.out, List.take_of_length_le (by rw [hl.out]; omega)]
      have Hm2 := Lib.hid hm2
      clear hm2
      go_wp2_with fail
      go_ret
      exact ⟨ret_int Hm2.out, hB⟩

/-- the routes by their places -/
def candAt (xs : List Cand) (i : Int) : Cand := xs.getD i.toNat ⟨0, 0, 0, ⟨0, 0, [], 0, 0, 0, 0, 0, [], []⟩, 0⟩
def rankI (xs : List Cand) (i k : Int) : Int := orL [lastI (candAt xs i) (candAt xs k), cmpI i k]
theorem candAt_get {xs : List Cand} {i : Nat} {x : Cand} (h : xs[i]? = some x) : candAt xs (i : Int) = x := by
  simp [candAt, h]

attribute [local go_sem ↓] Go.wp_at_zero Go.wp_at_succ
set_option maxHeartbeats 1000000 in
theorem best_closure2 (w : World) (F : Nat → Prop) (A : Option Addr) (n c : Nat) (xs : List Cand) (hl : listR 14 candR w F [.slice A n c] xs) (hF : InF F w) (ga : Nat) (hga : w.cell? ⟨ga, 0, none⟩ = some (.slice A n c)) (i k : Nat) (hi : i < n) (hk : k < n) :
    Calls Try.prog 24 #[.int .i64 i, .int .i64 k, .pointer (some ⟨ga, 0, none⟩)] w fun e w' => e = .returned (.int .i64 (rankI xs i k)) ∧ Below w.heap.size w w' := by
  have Hn := Lib.hid hl.len.1
  obtain ⟨x, hx⟩ : ∃ x, xs[i]? = some x := ⟨_, List.getElem?_eq_getElem (by rw [← Hn.out]; exact hi)⟩
  obtain ⟨y, hy⟩ : ∃ x, xs[k]? = some x := ⟨_, List.getElem?_eq_getElem (by rw [← Hn.out]; exact hk)⟩
  obtain ⟨b, off, cx, rfl, hFb, hRx, hrx⟩ := hl.at_ hx
  obtain ⟨b', off', cy, he, _, hRy, hry⟩ := hl.at_ hy
  cases he
  have hbl := hF b hFb
  obtain ⟨A1, n1, c1, A2, n2, c2, A3, n3, c3, rfl⟩ := hRx.lit
  obtain ⟨B1, m1, d1, B2, m2, d2, B3, m3, d3, rfl⟩ := hRy.lit
  obtain ⟨l1, l2⟩ := cells_keep hrx hbl
  obtain ⟨l3, l4⟩ := cells_keep hry hbl
  have hgl := World.block_lt_of_cell? w _ hga
  have l5 : ∀ w', Below w.heap.size w w' → w'.cell? ⟨ga, 0, none⟩ = some (.slice (some ⟨b, off, none⟩) n c) := fun w' h => (h.cell (p := ⟨ga, 0, none⟩) hgl).trans hga
  have HX := Lib.hid (fun w' (h : Below w.heap.size w w') => (⟨candR_ok.below hRx h hF, candR_ok.below hRy h hF⟩ : candR w' F _ x ∧ candR w' F _ y))
  have e1 : rankI xs i k = orL [lastI x y, cmpI i k] := by rw [rankI, candAt_get hx, candAt_get hy]
  rw [e1]
  clear hRx hRy hrx hry hx hy hl e1 hga Hn
  have hi0 : (0 : Int) ≤ (i : Int) := by omega
  have hi1 : (i : Int) < (n : Int) := by omega
  have hk0 : (0 : Int) ≤ (k : Int) := by omega
  have hk1 : (k : Int) < (n : Int) := by omega
  go_enter Try.func24, Try.ntmps24
  go_wp2_with fail
  go_region_held3 (fun w' => Below w.heap.size w w') (first | exact below_step (by assumption) hb1' | (repeat' (first | exact Below.refl _ _ | assumption | exact Below.size (by assumption) | refine Below.drew ?_ | refine Below.alloc ?_ ?_ _ | refine Below.setCell ?_ ?_ _ | (simp; done) | (simp; omega))))
    (first
      | (go_at_call 27; (with_reducible refine (cmp_Compare _ _ _).mono ?_); rintro e w' ⟨rfl, rfl⟩)
      | (go_at_call 25; (with_reducible refine (cmp_Or2 _ _ _ _ (rangeAt_new _ _ _)).mono ?_); rintro e w' ⟨rfl, rfl⟩)
      | (go_at_call 26; (with_reducible refine (choose_last _ F _ _ x y (HX.out _ ?_).1 (HX.out _ ?_).2).mono ?_); assumption; assumption; rintro e w1 ⟨rfl, hb1'⟩))
  go_wp2_with fail
  go_ret
  exact ⟨rfl, by assumption⟩
end Go.Proofs.Ytngfabnkgpidjaa
