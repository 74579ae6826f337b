/- The law's right, plain, plains. -/
import Derived.Test.YtngfabnkgpidjaaAttrCheck
import Derived.Test.YtngfabnkgpidjaaChooseOpen
namespace Go.Proofs.Ytngfabnkgpidjaa
open Go.RowKit
set_option linter.unusedVariables false

def Cand.ok (c : Cand) : Bool := decide (c.at_.path.length ≤ 8) && (c.at_.checkE == 0)
def rightB (xs : List Cand) : Bool := decide (xs.length ≤ 12) && xs.all Cand.ok
theorem cand_many {c : Cand} (h : 8 < c.at_.path.length) : c.ok = false := by
  have : decide (c.at_.path.length ≤ 8) = false := by simp; omega
  simp [Cand.ok, this]
theorem cand_bad {c : Cand} (h : (c.at_.checkE != 0) = true) : c.ok = false := by
  have : (c.at_.checkE == 0) = false := by simpa using h
  simp [Cand.ok, this]
theorem cand_ok {c : Cand} (h0 : c.at_.path.length ≤ 8) (h : (c.at_.checkE != 0) = false) : c.ok = true := by
  have : (c.at_.checkE == 0) = true := by simpa using h
  simp [Cand.ok, this, h0]
theorem right_bad {xs : List Cand} {k : Nat} {c : Cand} (hx : xs[k]? = some c) (h : c.ok = false) : rightB xs = false := by
  have : xs.all Cand.ok = false := List.all_eq_false.2 ⟨c, List.mem_of_getElem? hx, by simp [h]⟩
  simp [rightB, this]
theorem right_ok {xs : List Cand} (h0 : xs.length ≤ 12) (h : xs.all Cand.ok = true) : rightB xs = true := by
  simp [rightB, h, h0]
theorem right_many {xs : List Cand} (h0 : 12 < xs.length) : rightB xs = false := by
  have : decide (xs.length ≤ 12) = false := by simp; omega
  simp [rightB, this]

set_option maxHeartbeats 1000000 in
theorem law_right (w : World) (F : Nat → Prop) (A : Option Addr) (n c : Nat) (xs : List Cand) (h : listR 14 candR w F [.slice A n c] xs) (hF : InF F w) :
    Calls Try.prog 12 #[.slice A n c] w fun e w' => e = .returned (.bool (rightB xs)) ∧ Below w.heap.size w w' := by
  have hl := h.len
  have HN := Lib.hid hl.1
  have Hl := Lib.hid h
  clear h
  by_cases hn : 12 < n
  · have hnd : decide ((12 : Int) < (n : Int)) = true := decide_eq_true (by omega)
    clear hl
    go_enter Try.func12, Try.ntmps12
    go_wp2_with fail
    go_ret
    exact ⟨ret_bool (by rw [right_many (by have := HN.out; omega)]), Below.refl _ _⟩
  have hnd : decide ((12 : Int) < (n : Int)) = false := decide_eq_false (by omega)
  have Hn := Lib.hid hn
  clear hl hn
  go_enter Try.func12, Try.ntmps12
  go_wp2_with fail
  go_loopw [10] (fun i wr => ∃ k : Nat, k ≤ n ∧ i = .int .i64 k ∧ Hid ((xs.take k).all Cand.ok = true) ∧ Below w.heap.size w wr) (fun i _ => n - (intOf i).toNat)
  case atStart => exact ⟨0, Nat.zero_le _, rfl, Lib.hid rfl, Below.refl _ _⟩
  case round =>
    obtain ⟨k, hk, rfl, HT, hB⟩ := hrel
    by_cases hlt : k < n
    · obtain ⟨x, hx⟩ : ∃ x, xs[k]? = some x := ⟨_, List.getElem?_eq_getElem (by rw [← HN.out]; exact hlt)⟩
      obtain ⟨b, off, cs, rfl, hFb, ⟨ac, rfl, hA, hfx⟩, hr⟩ := Hl.out.at_ hx
      have HA := Lib.hid (fun w' (h : Below w.heap.size w w') => (⟨attrsR_ok.below hA h hF, hF.below h⟩ : attrsR w' F _ x.at_ ∧ InF F w'))
      obtain ⟨A1, n1, c1, A2, n2, c2, A3, n3, c3, rfl⟩ := hA.lit
      have HL := Lib.hid hA.lens.1.len.1
      obtain ⟨l1, l2⟩ := cells_now (rangeAt_below hr hB (hF b hFb))
      simp only [List.cons_append, List.nil_append] at l1 l2
      have HX := Lib.hid hx
      clear hr hA hx hfx
      have hB2 := hB.alloc hB.size (.cells #[.int .i64 x.peer, .int .u32 x.addr, .int .i64 x.len, .int .i64 x.at_.has, .int .i64 x.at_.origin, .slice A1 n1 c1, .int .u32 x.at_.nextHop, .int .i64 x.at_.med, .int .i64 x.at_.loc, .int .i64 x.at_.aggrAs, .int .u32 x.at_.aggrId, .slice A2 n2 c2, .slice A3 n3 c3, .int .u32 x.id] 35)
      by_cases hp : 8 < n1
      · have hpd : decide ((8 : Int) < (n1 : Int)) = true := decide_eq_true (by omega)
        have HP := Lib.hid hp
        clear hp
        go_wp2_with fail
        go_ret
        exact ⟨ret_bool (by rw [right_bad HX.out (cand_many (by have := HP.out; have := HL.out; omega))]), hB2⟩
      have hpd : decide ((8 : Int) < (n1 : Int)) = false := decide_eq_false (by omega)
      have HP := Lib.hid hp
      clear hp
      have hn12 : n ≤ 12 := Nat.le_of_not_lt Hn.out
      cases hq : (x.at_.checkE != 0)
      all_goals
        have HQ := Lib.hid hq
        have hqq := hq
        clear hq
        go_wp2_with (go_at_call 28; (with_reducible refine (attr_Check _ F _ x.at_ (HA.out _ hB2).1 (HA.out _ hB2).2).mono ?_); rintro e w1 ⟨rfl, hb1⟩; have hB3 := hB2.trans (hb1.mono hB2.size))
      · go_roundw
        case rel => exact ⟨k + 1, by omega, by go_num, Lib.hid (all_take HX.out HT.out (cand_ok (by have := HP.out; have := HL.out; omega) HQ.out)), hB3⟩
        case measure => simp [intOf]; omega
      · go_ret
        exact ⟨ret_bool (by rw [right_bad HX.out (cand_bad HQ.out)]), hB3⟩
    · have hn12 := Hn.out
      go_wp2_with fail
      go_ret
      exact ⟨ret_bool (by rw [right_ok (by have := HN.out; omega) (all_whole (by have := HN.out; omega) HT.out)]), hB⟩
end Go.Proofs.Ytngfabnkgpidjaa
