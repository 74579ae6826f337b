/- RulesActs returns true at every input, and leaves its arguments as they were. No condition. The frame of this text was written by a program of ours after proof-skeleton.mjs. -/
import Derived.Test.YtjeligbgcofaeaaDoorRuN
import Derived.Test.YtjeligbgcofaeaaDoorRuOp
import Derived.Test.YtjeligbgcofaeaaDoorPost
import Derived.Test.YtjeligbgcofaeaaDoorCards
import Derived.Test.YtjeligbgcofaeaaDoorTie
import Derived.SevenTiedAt
import Derived.LaidMore
import Derived.Lay
import Derived.WalkKit
import Derived.ProofKit
import Derived.OpenShut
import Derived.Carry
namespace Go.Proofs.YtjeligbgcofaeaaDoor.rulesActs
open Go.ChangeShapes Go.WideShapes Go.ChangeAt Go.RowKit
set_option linter.unusedVariables false
set_option linter.unusedSimpArgs false
set_option linter.unnecessarySimpa false

theorem own : ownKnob Tryd.prog.godebug = none := by kernel_rfl

set_option maxRecDepth 100000 in
theorem lifted (os : Os) (started : os.Started) (H : Type) (enc : TypeId × Value → H) :
    ReturnsInHanded {} Tryd.checked os 3 .any (fun w args => (Rows.rulesActsSpec.pre enc Tryd.prog Tryd.f3 [] false w args ∧ laidMetH Tryd.prog [("carrefour/head.widths", Rows.laid_carrefour_head_widths)] w) ∧ sizedMet enc Tryd.prog Tryd.f3 (OpenSpec.ofChange Rows.rulesActsSpec) false w args) (Rows.rulesActsSpec.post enc Tryd.prog Tryd.f3 false true false false) := by
  refine returnsInHanded_of_change_and (C := Tryd.checked) (X := fun w _ => laidMetH Tryd.prog [("carrefour/head.widths", Rows.laid_carrefour_head_widths)] w) (fun _ _ _ hh h => h.of_heap hh) own started (by kernel_rfl) Tryd.func3
    (ChangeSpec.witness_shaped (enc := enc) (C := Tryd.checked) (os := os) (X := fun w _ => laidMetH Tryd.prog [("carrefour/head.widths", Rows.laid_carrefour_head_widths)] w) false (World.laidAll Tryd.prog os [("carrefour/head.widths", Rows.laid_carrefour_head_widths)]) #[.agg #[.int .i64 0, .int .u64 0, .int .u64 0, .int .u64 0, .int .u64 0, .int .u64 0, .int .u64 0, .int .u64 0, .int .u64 0, .int .u64 0], .agg #[.int .i64 0, .int .u64 0, .int .u64 0, .int .u64 0, .int .u64 0, .int .u64 0, .int .u64 0, .int .u64 0, .int .u64 0, .int .u64 0], .agg #[.int .i64 0, .int .u8 0, .int .u8 0, .int .u8 0, .int .u8 0, .int .u8 0, .int .u8 0, .int .u8 0, .int .u8 0, .int .u8 0, .int .u8 0, .int .u8 0, .int .u8 0, .int .i64 0, .int .u32 0, .int .u32 0, .int .i64 0, .int .i64 0, .int .i64 0]] 8 (World.laidAll_os _ _ _) (World.shaped_of_ZipB (by kernel_rfl) (by kernel_rfl)) (by kernel_rfl) (by kernel_rfl) (by kernel_rfl)
      (by rw [MakeChecks.laidMetH_plain _ _ _ (by kernel_rfl)]; exact laidMet_laidAll _ (by kernel_rfl) (by kernel_rfl))) ?_
  intro W base args ds gs before hval0 hW _ _ hL _
  have hT : Tab W := tab_of_laid hL
  have hval : ∀ (j : Nat) t v, Tryd.f3.params[j]? = some t → args[j]? = some v → Value.okWide Tryd.prog W .any base t v := hval0
  have hW' := hW
  obtain ⟨p, q, hA0, hV, rfl, hfz, hnd⟩ := hW
  have hA : DataW.TrodAll enc Tryd.prog W 0 (fun _ => true) true Tryd.f3.params.toList args.toList ds p := hA0
  rw [Tryd.params3] at hA hval
  obtain ⟨v0, vs0, d0, ds0, p0, q0, hargs, rfl, rfl, h0, r0⟩ := trodAll_cons hA
  obtain ⟨v1, vs1, d1, ds1, p1, q1, rfl, rfl, rfl, h1, r1⟩ := trodAll_cons r0
  obtain ⟨v2, vs2, d2, ds2, p2, q2, rfl, rfl, rfl, h2, r2⟩ := trodAll_cons r1
  obtain ⟨rfl, rfl, rfl⟩ := trodAll_nil r2
  obtain rfl : args = #[v0, v1, v2] := by cases args; simp_all
  obtain ⟨rfl, rfl⟩ := trodVars_none hV
  obtain ⟨cs0, rfl, hcs0⟩ := okWide_struct Tryd.underlying25 (hval 0 25 v0 rfl rfl)
  have h0' := h0
  obtain ⟨fuel0, h0'⟩ := h0'
  obtain ⟨x0, hR0, hM0⟩ := opens_act W enc 0 _ _ fuel0 _ _ h0'
  simp only [Value.cells] at hR0
  obtain ⟨he0, hf0⟩ := hR0
  obtain rfl : cs0 = x0.vals.toArray := by cases cs0; simpa using he0
  obtain ⟨cs1, rfl, hcs1⟩ := okWide_struct Tryd.underlying25 (hval 1 25 v1 rfl rfl)
  have h1' := h1
  obtain ⟨fuel1, h1'⟩ := h1'
  obtain ⟨x1, hR1, hM1⟩ := opens_act W enc 0 _ _ fuel1 _ _ h1'
  simp only [Value.cells] at hR1
  obtain ⟨he1, hf1⟩ := hR1
  obtain rfl : cs1 = x1.vals.toArray := by cases cs1; simpa using he1
  obtain ⟨cs2, rfl, hcs2⟩ := okWide_struct Tryd.underlying31 (hval 2 31 v2 rfl rfl)
  have h2' := h2
  obtain ⟨fuel2, h2'⟩ := h2'
  obtain ⟨x2, hR2, hM2⟩ := opens_hdr W enc 0 _ _ fuel2 _ _ h2'
  simp only [Value.cells] at hR2
  obtain ⟨he2, hf2⟩ := hR2
  obtain rfl : cs2 = x2.vals.toArray := by cases cs2; simpa using he2
  clear hA0 hval0
  simp only [List.append_nil, List.nil_append] at hW'
  have hlt : ∀ x ∈ (p0 ++ (p1 ++ (p2))), x.block < W.heap.size := fun x hx => hW'.lt x (by simpa using hx)
  refine (law_acts rules_example x0 x1 x2 W hT hf0 hf1 hf2).mono fun e W' ⟨he, hg⟩ => ?_
  subst he
  exact ⟨_, rfl, post_of_below (pa := (p0 ++ (p1 ++ (p2)))) (pv := []) hW' (fun _ _ _ => (trodAll_cons_mk (shut_bool Tryd.underlying4 _) trodAll_mk0)) (fun sp hsp => by
      have := trodAll_cons_mk (WideElems.Trod_stays (by kernel_rfl) (by kernel_rfl) (of_decide_eq_true (by kernel_rfl)) h0 (fun x hx => hg.same (hlt x (by simp [hx]))) (fun x hx => hsp x (by simp [hx]))) (trodAll_cons_mk (WideElems.Trod_stays (by kernel_rfl) (by kernel_rfl) (of_decide_eq_true (by kernel_rfl)) h1 (fun x hx => hg.same (hlt x (by simp [hx]))) (fun x hx => hsp x (by simp [hx]))) (trodAll_cons_mk (WideElems.Trod_stays (by kernel_rfl) (by kernel_rfl) (of_decide_eq_true (by kernel_rfl)) h2 (fun x hx => hg.same (hlt x (by simp [hx]))) (fun x hx => hsp x (by simp [hx]))) (trodAll_mk0)))
      simp only [List.append_nil, List.nil_append] at this
      exact this) (fun _ _ => rfl) (by simp)
    hg (ok_one (by kernel_rfl) rfl (okWide_bool_mk Tryd.underlying4 _))⟩

theorem over : Rows.rulesActsRow.holds Tryd.pinned (OpenSpec.ofChange Rows.rulesActsSpec) :=
  OpenClaim.holds_of_wide 3 Tryd.f3 rfl rfl rfl rfl rfl rfl rfl ⟨rfl, rfl, rfl, rfl, rfl⟩ rfl rfl rfl rfl rfl (by kernel_rfl) Tryd.func3 (by kernel_rfl)
    (of_decide_eq_true (by kernel_rfl)) (by unfold Func.isWrapper; first | (rw [if_pos (by decide +kernel)]; kernel_rfl) | (rw [if_neg (by decide +kernel)]; exact ⟨rfl, rfl⟩))
    (fun os started H enc _ => lifted os started H enc)

theorem proved : Rows.RulesActsCardSaid :=
  Claim7.holds_tied_plain_at .later [] [.data] true (true, "a307269be5cab259f94f16f6cfb0bb02e69bdfef54b3248af6c9290681749af7") false
    over (fun _ h => by cases h) (by kernel_rfl) (fun _ h => by cases h) rulesActs_row_tie rfl ⟨rfl, rfl⟩ (by kernel_rfl) rfl
    (fun f fn hf hfn => by
      obtain rfl : f = 3 := Option.some.inj ((show Tryd.prog.funcNamed "carrefour/carrefourlaw17.RulesActs" = some 3 by kernel_rfl).symm.trans hf) |>.symm
      obtain rfl : fn = Tryd.f3 := (Option.some.inj (Tryd.func3.symm.trans hfn)).symm
      exact ⟨by kernel_rfl, fun j t ht => by
        rw [Tryd.params3] at ht
        have hm : t ∈ [25, 25, 31] := by simpa using Array.mem_of_getElem? ht
        have hall : ([25, 25, 31].all fun u => !Tryd.prog.wantsStandIn u) = true := by kernel_rfl
        exact (show Tryd.prog.wantsStandIn t = false by simpa using List.all_eq_true.1 hall t hm)⟩)
    (by kernel_rfl)
#print axioms proved
end Go.Proofs.YtjeligbgcofaeaaDoor.rulesActs
