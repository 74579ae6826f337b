/- The law ChooseBest. -/
import Derived.Test.YtngfabnkgpidjaaLawRight
import Derived.Test.YtngfabnkgpidjaaRefBest
import Derived.Test.YtngfabnkgpidjaaPlainBest
import Derived.Test.YtngfabnkgpidjaaChooseI
namespace Go.Proofs.Ytngfabnkgpidjaa
open Go.RowKit
set_option linter.unusedVariables false

theorem check_zero {a : Attrs} (h : a.checkE = 0) : a.bad0 = false ∧ a.bad1 = false ∧ a.bad4 = false ∧ a.okAll = true := by
  unfold Attrs.checkE at h
  cases h0 : a.bad0 <;> cases h1 : a.bad1 <;> cases h4 : a.bad4 <;> cases hk : a.okAll <;> simp_all
theorem hopsOf_255 {ss : List Seg} (h : ∀ s ∈ ss, s.row.length ≤ 255) : hopsOf ss ≤ ss.length * 255 := by
  induction ss with
  | nil => simp [hopsOf]
  | cons x r ih =>
    have h1 := ih (fun s hs => h s (by simp [hs]))
    have h2 := h x (by simp)
    simp only [hopsOf, List.length_cons]
    split <;> omega
theorem cand_good {x : Cand} (h : x.ok = true) (hf : x.Fits) : x.Good ∧ (plainI x).Fits := by
  unfold Cand.ok at h
  rw [Bool.and_eq_true] at h
  have hp := of_decide_eq_true h.1
  have hc : x.at_.checkE = 0 := by simpa using h.2
  obtain ⟨h0, h1, h4, hk⟩ := check_zero hc
  have hs : ∀ s ∈ x.at_.path, s.row.length ≤ 255 := fun s hs => by
    unfold Attrs.okAll at hk
    rw [Bool.and_eq_true, Bool.and_eq_true] at hk
    have := List.all_eq_true.1 hk.1.1 s hs
    unfold Seg.ok at this
    rw [Bool.and_eq_true, Bool.and_eq_true] at this
    exact of_decide_eq_true this.1.2
  have hh := hopsOf_255 hs
  have hb : 0 ≤ x.at_.has := by
    unfold Attrs.bad0 at h0
    simp only [Bool.or_eq_false_iff, decide_eq_false_iff_not] at h0
    omega
  have ho : 0 ≤ x.at_.origin ∧ x.at_.origin ≤ 2 := by
    unfold Attrs.bad1 at h1
    simp only [Bool.or_eq_false_iff, decide_eq_false_iff_not] at h1
    omega
  have hl : 0 ≤ x.at_.loc ∧ x.at_.loc < 4294967296 := by
    unfold Attrs.bad4 wordB at h4
    simp only [Bool.or_eq_false_iff, Bool.not_eq_false', decide_eq_true_eq] at h4
    exact h4.2
  have hlk : 0 ≤ x.at_.likes ∧ x.at_.likes ≤ 4294967295 := by
    unfold Attrs.likes
    split <;> omega
  have hho : (x.at_.hops : Int) ≤ 2040 := by
    have : x.at_.hops ≤ x.at_.path.length * 255 := hh
    omega
  exact ⟨⟨⟨by omega, fun s h => by have := hs s h; omega⟩, hb⟩, ⟨hlk, ⟨by simp only [plainI]; omega, by simp only [plainI]; omega⟩, ⟨by simp only [plainI]; omega, by simp only [plainI]; omega⟩, hf.id, hf.peer⟩⟩
theorem listR_fits {w : World} {F : Nat → Prop} {A : Option Addr} {n c : Nat} {xs : List Cand} (h : listR 14 candR w F [.slice A n c] xs) : ∀ x ∈ xs, x.Fits := fun x hx => by
  obtain ⟨k, hk, rfl⟩ := List.mem_iff_getElem.1 hx
  obtain ⟨b, off, cs, _, _, ⟨ac, _, _, hf⟩, _⟩ := h.at_ (List.getElem?_eq_getElem hk)
  exact hf
theorem right_good {xs : List Cand} (h : rightB xs = true) (hf : ∀ x ∈ xs, x.Fits) : xs.length ≤ 12 ∧ (∀ x ∈ xs, x.Good) ∧ ∀ r ∈ xs.map plainI, r.Fits := by
  unfold rightB at h
  rw [Bool.and_eq_true] at h
  have hg := fun x (hx : x ∈ xs) => cand_good (List.all_eq_true.1 h.2 x hx) (hf x hx)
  refine ⟨of_decide_eq_true h.1, fun x hx => (hg x hx).1, fun r hr => ?_⟩
  obtain ⟨x, hx, rfl⟩ := List.mem_map.1 hr
  exact (hg x hx).2
theorem groups_rows {w : World} {F : Nat → Prop} : ∀ {rs : List RRoute}, (∀ r ∈ rs, r.Fits) → Groups rrouteR w F (rowsOf rs) rs
  | [], _ => rfl
  | r :: rs, h => ⟨r.row, rowsOf rs, by simp [rowsOf], ⟨rfl, h r (by simp)⟩, groups_rows fun x hx => h x (by simp [hx])⟩
theorem best_any (w : World) (F : Nat → Prop) (A : Option Addr) (n c : Nat) (xs : List Cand) (hl : listR 14 candR w F [.slice A n c] xs) (hF : InF F w) (hn : n ≤ 1048576) (hg : ∀ x ∈ xs, x.Good) :
    Calls Try.prog 11 #[.slice A n c] w fun e w' => e = .returned (.int .i64 (bestI xs)) ∧ Below w.heap.size w w' := by
  have hlen := hl.len.1
  by_cases h0 : n = 0
  · subst h0
    have : xs = [] := List.eq_nil_of_length_eq_zero (by omega)
    subst this
    exact choose_Best0 w c A
  · obtain ⟨x, hx⟩ : ∃ x, xs[0]? = some x := ⟨_, List.getElem?_eq_getElem (by omega)⟩
    obtain ⟨b, off, cs, rfl, hFb, _, _⟩ := hl.at_ hx
    exact choose_Best1 w F b off n c xs hl hF hFb (by omega) hn hg
set_option maxHeartbeats 1000000 in
theorem law_ChooseBest (w : World) (F : Nat → Prop) (A : Option Addr) (n c : Nat) (xs : List Cand) (hl : listR 14 candR w F [.slice A n c] xs) (hF : InF F w) :
    Calls Try.prog 4 #[.slice A n c] w fun e w' => e = .returned (.bool true) ∧ Below w.heap.size w w' := by
  have Hl := Lib.hid hl
  have hlen := hl.len.1
  have HF := Lib.hid hF
  have Hfit := Lib.hid (listR_fits hl)
  have HN := Lib.hid hlen
  clear hl hlen hF
  go_enter Try.func4, Try.ntmps4
  go_wp2_with fail
  refine (law_head w).mono ?_
  rintro e w1 ⟨rfl, hB1⟩
  go_wp2_with fail
  refine (law_right w1 F A n c xs ((listR_ok candR_ok).below Hl.out hB1 HF.out) (HF.out.below hB1)).mono ?_
  rintro e w2 ⟨rfl, hb2⟩
  have hB2 := below_step hB1 hb2
  cases hr : rightB xs
  · clear hr
    go_wp2_with fail
    go_ret
    exact ⟨rfl, hB2⟩
  · obtain ⟨h12, hg, hfr⟩ := right_good hr Hfit.out
    have hn : n ≤ 1048576 := by have := HN.out; omega
    have HG := Lib.hid hg
    have HFR := Lib.hid hfr
    clear hr hg hfr h12
    go_wp2_with fail
    refine (best_any w2 F A n c xs ((listR_ok candR_ok).below Hl.out hB2 HF.out) (HF.out.below hB2) hn HG.out).mono ?_
    rintro e w3 ⟨rfl, hb3⟩
    have hB3 := below_step hB2 hb3
    go_wp2_with fail
    refine (law_plains w3 F A n c xs ((listR_ok candR_ok).below Hl.out hB3 HF.out) (HF.out.below hB3) hn HG.out).mono ?_
    rintro e w4 ⟨v, rfl, hown, hb4⟩
    have hB4 := below_step hB3 hb4
    have hnx : n = (xs.map plainI).length := by rw [List.length_map]; exact HN.out
    have ho : ownR 48 7 rrouteR w4 (fun _ => False) w3.heap.size v (xs.map plainI) := ⟨_, hnx ▸ hown, groups_rows HFR.out, fun _ _ h => h⟩
    obtain ⟨B, d, rfl⟩ := ho.form
    have hfz := ho.freeze rrouteR_ok
    have hin : InF (fun b => False ∨ (Value.slice B (xs.map plainI).length d).ownBlock = some b) w4 := fun b hb => by
      rcases hb with hb | hb
      · exact hb.elim
      · exact (ho.lt b hb).2
    simp only [List.length_map] at hfz hin ⊢
    have Hfz := Lib.hid hfz
    have Hin := Lib.hid hin
    have Hnx := Lib.hid hnx
    clear ho hfz hin hown hnx
    go_wp2_with fail
    have hcall := ref_Best w4 _ B _ d (xs.map plainI) Hfz.out Hin.out (by rw [← HN.out]; exact hn) HFR.out
    rw [← best_same] at hcall
    obtain ⟨q, hq⟩ : ∃ q, bestI xs = q := ⟨_, rfl⟩
    rw [hq] at hcall ⊢
    clear hq
    refine hcall.mono ?_
    rintro e w5 ⟨rfl, hb5⟩
    have hB5 := below_step hB4 hb5
    clear hcall
    go_wp2_with fail
    go_ret
    exact ⟨rfl, hB5⟩
end Go.Proofs.Ytngfabnkgpidjaa
