/- What package cmp's functions return at integers. -/
import Derived.Test.YtjeligbgcofaeaaDoorLib
namespace Go.Proofs.YtjeligbgcofaeaaDoor
open Go.RowKit

def cmpI (a b : Int) : Int := if a < b then -1 else if b < a then 1 else 0
def orL : List Int → Int
  | [] => 0
  | x :: r => if x = 0 then orL r else x

set_option maxHeartbeats 400000 in
theorem cmp_isNaN (a : Int) (w : World) : Calls Tryd.prog 58 #[.int .i64 a] w fun e w' => e = .returned (.bool false) ∧ w = w' := by
  go_enter Tryd.func58, Tryd.ntmps58
  go_wp2
  go_ret
  exact ⟨by simp, rfl⟩
set_option maxHeartbeats 400000 in
theorem cmp_Compare (a b : Int) (w : World) : Calls Tryd.prog 41 #[.int .i64 a, .int .i64 b] w fun e w' => e = .returned (.int .i64 (cmpI a b)) ∧ w = w' := by
  go_enter Tryd.func41, Tryd.ntmps41
  go_wp2_with (go_at_call 58; refine (cmp_isNaN _ _).mono ?_; rintro e w' ⟨rfl, rfl⟩)
  all_goals go_ret
  all_goals exact ⟨ret_int (by unfold cmpI; split <;> (try split) <;> omega), rfl⟩

theorem orL_take {xs : List Int} : ∀ {k : Nat}, (∀ x ∈ xs.take k, x = 0) → orL xs = orL (xs.drop k) := by
  induction xs with
  | nil => intro k _; simp
  | cons x r ih =>
    intro k h
    cases k with
    | zero => rfl
    | succ k =>
      have h0 : x = 0 := h x (by simp)
      rw [orL, if_pos h0]
      exact ih fun y hy => h y (by simp [hy])
theorem orL_stop {xs : List Int} {k : Nat} {x : Int} (h : ∀ y ∈ xs.take k, y = 0) (hx : xs[k]? = some x) (hn : ¬ x = 0) : orL xs = x := by
  rw [orL_take h]
  have hk : k < xs.length := (List.getElem?_eq_some_iff.1 hx).1
  rw [List.drop_eq_getElem_cons hk, orL, (List.getElem?_eq_some_iff.1 hx).2, if_neg hn]
def Noughts (l : List Int) : Prop := ∀ x ∈ l, x = 0
theorem Noughts.snoc {xs : List Int} {k : Nat} (h : Noughts (xs.take k)) (hx : xs[k]? = some 0) : Noughts (xs.take (k + 1)) := by
  have hk : k < xs.length := (List.getElem?_eq_some_iff.1 hx).1
  rw [List.take_succ_eq_append_getElem hk]
  intro y hy
  rcases List.mem_append.1 hy with h1 | h1
  · exact h y h1
  · simp at h1
    rw [h1, (List.getElem?_eq_some_iff.1 hx).2]
set_option maxHeartbeats 400000 in
theorem cmp_Or (b off c n : Nat) (xs : List Int) (w : World) (hl : Hid (xs.length = n)) (hr : w.rangeAt b off (xs.map (Value.int .i64))) (hn : n ≤ 1048576) :
    Calls Tryd.prog 40 #[.slice (some ⟨b, off, none⟩) n c] w fun e w' => e = .returned (.int .i64 (orL xs)) ∧ w = w' := by
  have Hr := Lib.hid hr
  clear hr
  go_enter Tryd.func40, Tryd.ntmps40
  go_wp2
  go_loop [8] (fun i => ∃ k : Nat, k ≤ n ∧ i = .int .i64 k ∧ Noughts (xs.take k)) (fun i => n - (intOf i).toNat)
  case atStart => exact ⟨0, Nat.zero_le _, rfl, by simp [Noughts]⟩
  case round =>
    obtain ⟨k, hk, rfl, hz⟩ := hrel
    by_cases hlt : k < n
    · obtain ⟨x, hx⟩ : ∃ x, xs[k]? = some x := ⟨_, List.getElem?_eq_getElem (by rw [hl.out]; exact hlt)⟩
      have c0 : w.cell? ⟨b, off + k, none⟩ = some (.int .i64 x) := Hr.out k _ (by rw [List.getElem?_map, hx]; rfl)
      have Hx := Lib.hid hx
      clear hx
      by_cases h0 : x = 0
      · subst h0
        go_wp2
        go_round
        case rel => exact ⟨k + 1, by omega, by go_num, hz.snoc Hx.out⟩
        case measure => simp [intOf]; omega
      · have hb : (x != 0) = true := by simpa using h0
        go_wp2
        go_ret
        exact ⟨ret_int (orL_stop hz Hx.out h0).symm, rfl⟩
    · go_wp2
      go_ret
      exact ⟨ret_int (by rw [orL_take hz, List.drop_eq_nil_of_le (by rw [hl.out]; omega)]; rfl), rfl⟩
theorem cmp_Or3 (g : Nat) (x y z : Int) (w : World) (hr : w.rangeAt g 0 [.int .i64 x, .int .i64 y, .int .i64 z]) :
    Calls Tryd.prog 40 #[.slice (some ⟨g, 0, none⟩) 3 3] w fun e w' => e = .returned (.int .i64 (orL [x, y, z])) ∧ w = w' := cmp_Or g 0 3 3 [x, y, z] w rfl hr (by omega)
theorem cmp_Or2 (g : Nat) (x y : Int) (w : World) (hr : w.rangeAt g 0 [.int .i64 x, .int .i64 y]) :
    Calls Tryd.prog 40 #[.slice (some ⟨g, 0, none⟩) 2 2] w fun e w' => e = .returned (.int .i64 (orL [x, y])) ∧ w = w' := cmp_Or g 0 2 2 [x, y] w rfl hr (by omega)
end Go.Proofs.YtjeligbgcofaeaaDoor
