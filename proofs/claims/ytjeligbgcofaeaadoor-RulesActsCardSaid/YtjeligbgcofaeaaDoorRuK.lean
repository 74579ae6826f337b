/- rules.List: Find, Run (rows of rules in a block of the call's own). -/
import Derived.Test.YtjeligbgcofaeaaDoorRuG
import Derived.Test.YtjeligbgcofaeaaDoorRuJ
import Derived.Test.YtjeligbgcofaeaaDoorHdI
namespace Go.Proofs.YtjeligbgcofaeaaDoor
open Go.RowKit Go.Sort Go.Shelf
set_option linter.unusedVariables false
set_option linter.unusedSimpArgs false

/-! ### a header that fits stays one -/
theorem okH_with {h : Hdr} (ho : h.Ok) {k : Nat} {n : Int} (hk : k < 9) (h0 : 0 ≤ n) (h1 : n ≤ fullN k) : okH (withH h k n) = true := by
  have o := ho.ok
  simp only [okH, chkL, okP, List.all_cons, List.all_nil, Bool.and_true, Bool.and_eq_true, decide_eq_true_eq] at o ⊢
  obtain ⟨o1, o2, o3, o4, o5⟩ := o
  match k, hk with
  | 0, _ => exact ⟨⟨h0, h1⟩, o2, o3, o4, o5⟩
  | 1, _ => exact ⟨o1, o2, o3, o4, o5⟩
  | 2, _ => exact ⟨o1, o2, o3, o4, o5⟩
  | 3, _ => exact ⟨o1, ⟨h0, h1⟩, o3, o4, o5⟩
  | 4, _ => exact ⟨o1, o2, o3, o4, o5⟩
  | 5, _ => exact ⟨o1, o2, o3, o4, o5⟩
  | 6, _ => exact ⟨o1, o2, ⟨h0, h1⟩, o4, o5⟩
  | 7, _ => exact ⟨o1, o2, o3, ⟨h0, h1⟩, o5⟩
  | 8, _ => exact ⟨o1, o2, o3, o4, ⟨h0, h1⟩⟩
theorem with_ok {h : Hdr} (ho : h.Ok) {k : Nat} {n : Int} (hk : k < 9) (h0 : 0 ≤ n) (h1 : n ≤ fullN k) : (withH h k n).Ok := ⟨withH_fits ho.fits hk h0 h1, okH_with ho hk h0 h1⟩
theorem applyN_ok {a : Act9} {h : Hdr} (ha : a.Right) (ho : h.Ok) : ∀ k, k ≤ 9 → (applyN a h k).Ok
  | 0, _ => ho
  | k + 1, hk => by
    rw [applyN]
    split
    · exact with_ok (applyN_ok ha ho k (by omega)) (by omega) (ha.val k (by omega)).1 (ha.val k (by omega)).2
    · exact applyN_ok ha ho k (by omega)
abbrev OAct := { a : Act9 // a.Right }
def encA (a : OAct) : List Value := a.1.vals
theorem encA_len (a : OAct) : (encA a).length = 10 := rfl
theorem encA_one (a : OAct) : ∀ v ∈ encA a, v.oneCell' = true := act_one a.1
abbrev actO : Rep OAct := encR encA
theorem actO_ok : actO.Ok 10 := encR_ok encA_len encA_one
def applyO (h : OHdr) (a : OAct) : OHdr := ⟨applyH a.1 h.1, applyN_ok a.2 h.2 9 (by omega)⟩
/-! ### rules -/
structure RuleD where
  mv : List Int
  ms : List Int
  sl : Value
def RuleD.cells (r : RuleD) : List Value := matC r.mv r.ms ++ [r.sl]
structure RuleD.Good (r : RuleD) : Prop where
  mv : r.mv.length = 9
  ml : r.ms.length = 9
  sl : r.sl.oneCell' = true
theorem RuleD.Good.len {r : RuleD} (h : r.Good) : r.cells.length = 19 := by
  simp [RuleD.cells, matC, h.mv, h.ml]
theorem RuleD.Good.mlen {r : RuleD} (h : r.Good) : (matC r.mv r.ms).length = 18 := by
  simp [matC, h.mv, h.ml]
set_option maxRecDepth 100000 in
set_option maxHeartbeats 2000000 in
theorem list_Find1 (r : RuleD) (h : Hdr) (g : Nat) (w : World) (hT : Tab w) (hr : r.Good) (hf : h.Fits) (hg : Blk w g 31 h.vals.toArray) :
    Calls Tryd.prog 65 #[.agg r.cells.toArray, .pointer (some ⟨g, 0, none⟩)] w fun e w' => e = .returned (.bool (hitsB r.mv r.ms h)) ∧ Below w.heap.size w w' := by
  have HB : Hid (Below w.heap.size w (w.alloc (.cells r.cells.toArray 83))) := Lib.hid ((Below.refl _ _).alloc (Nat.le_refl _) _)
  have R1 := Lib.hid (hg.below HB.out hg.lt).range
  have hk := Blk.new w 83 r.cells.toArray
  have hkr := rangeAt_take hk.range 18
  have he : r.cells.take 18 = matC r.mv r.ms := by
    unfold RuleD.cells
    rw [List.take_left' hr.mlen]
  rw [he] at hkr
  have R2 := Lib.hid hkr
  have C := Lib.hid (fun W (q : Below w.heap.size w W) => mat_Hits r.mv r.ms h W (hT.below q) hr.mv hr.ml hf)
  have HL := Lib.hid hr.mlen
  obtain ⟨cs, hcs⟩ : ∃ cs, cs = r.cells := ⟨_, rfl⟩
  obtain ⟨ms, hms⟩ : ∃ ms, ms = matC r.mv r.ms := ⟨_, rfl⟩
  rw [← hcs] at HB R1 R2
  rw [← hms] at C R2 HL
  rw [← hcs]
  clear hg hk hkr he hT hcs hms hr
  go_enter Tryd.func65, Tryd.ntmps65
  go_wp2_with (first
    | (refine wpList_load_mid rfl 76 (.tmp 4) rfl w.heap.size 0 rfl ms _ R2.out Tryd.underlying76 rfl (by rw [HL.out]; kernel_rfl) ?_)
    | (refine wpList_load_mid rfl 31 (.tmp 1) rfl g 0 rfl h.vals _ R1.out Tryd.underlying31 rfl (by kernel_rfl) ?_)
    | (go_at_call 66; (with_reducible refine (C.out _ HB.out).mono ?_); rintro e u ⟨rfl, hb⟩; have HB1 := Lib.hid (below_step HB.out hb); clear hb)
    | fail)
  go_ret
  exact ⟨rfl, HB1.out⟩
def ixB : List Bool → Nat → Int
  | [], _ => -1
  | true :: _, k => (k : Int)
  | false :: r, k => ixB r (k + 1)
theorem ixB_drop : ∀ (k : Nat) (bs : List Bool) (o : Nat), (∀ b ∈ bs.take k, b = false) → k ≤ bs.length → ixB bs o = ixB (bs.drop k) (o + k)
  | 0, bs, o, _, _ => rfl
  | k + 1, [], o, _, hl => by simp at hl
  | k + 1, b :: r, o, h, hl => by
    have hb : b = false := h b (by simp)
    subst hb
    rw [ixB, ixB_drop k r (o + 1) (fun x hx => h x (by simp [hx])) (by simpa using hl), List.drop_succ_cons, show o + 1 + k = o + (k + 1) by omega]
/-- the rules lie one behind the other in a block -/
def RulesAt (w : World) (L : Nat) (rs : List RuleD) : Prop := ∀ (k : Nat) (r : RuleD), rs[k]? = some r → w.rangeAt L (k * 19) r.cells
set_option maxRecDepth 100000 in
set_option maxHeartbeats 2000000 in
theorem list_Index (w : World) (L n c g : Nat) (rs : List RuleD) (h : Hdr) (hT : Tab w) (hn : n = rs.length) (hm : n ≤ 1048576) (hr : ∀ r ∈ rs, r.Good) (hL : L < w.heap.size) (hat : RulesAt w L rs) (hf : h.Fits) (hg : Blk w g 31 h.vals.toArray) :
    Calls Tryd.prog 64 #[.slice (some ⟨L, 0, none⟩) n c, .func (.func 65) #[] #[.pointer (some ⟨g, 0, none⟩)]] w fun e w' => e = .returned (.int .i64 (ixB (rs.map fun r => hitsB r.mv r.ms h) 0)) ∧ Below w.heap.size w w' := by
  have HT := Lib.hid hT
  have HN := Lib.hid hn
  have HR := Lib.hid hr
  have HL := Lib.hid hL
  have HAT := Lib.hid hat
  have HG := Lib.hid hg
  have HF := Lib.hid hf
  clear hT hn hr hL hat hg hf
  go_enter Tryd.func64, Tryd.ntmps64
  go_wp2_with fail
  go_loopw [8] (fun i wr => ∃ k : Nat, k ≤ n ∧ i = .int .i64 k ∧ Hid (∀ b ∈ (rs.map fun r => hitsB r.mv r.ms h).take k, b = false) ∧ Below w.heap.size w wr) (fun i _ => n - (intOf i).toNat)
  case atStart => exact ⟨0, Nat.zero_le _, rfl, Lib.hid (by simp), Below.refl _ _⟩
  case round =>
    obtain ⟨k, hk, rfl, HP, hB⟩ := hrel
    by_cases hlt : k < n
    · obtain ⟨r, hr⟩ : ∃ r, rs[k]? = some r := ⟨_, List.getElem?_eq_getElem (by rw [← HN.out]; exact hlt)⟩
      have hgood := HR.out r (List.mem_of_getElem? hr)
      have RNG := Lib.hid (rangeAt_below (HAT.out k r hr) hB HL.out)
      have HGL := Lib.hid hgood.len
      have HRK := Lib.hid hr
      have HB := Lib.hid hB
      have hk0 : (0 : Int) ≤ (k : Int) := by omega
      have hk1 : (k : Int) < (n : Int) := by omega
      have C := Lib.hid (list_Find1 r h g wr (HT.out.below hB) hgood HF.out (HG.out.below hB HG.out.lt))
      obtain ⟨b, hb⟩ : ∃ b, b = hitsB r.mv r.ms h := ⟨_, rfl⟩
      have HBB := Lib.hid hb
      rw [← hb] at C
      obtain ⟨cs, hcs⟩ : ∃ cs, cs = r.cells := ⟨_, rfl⟩
      rw [← hcs] at C RNG HGL
      clear hr hgood hB hb hcs
      have hbk : Hid ((rs.map fun r => hitsB r.mv r.ms h)[k]? = some b) := Lib.hid (by rw [List.getElem?_map, HRK.out, HBB.out]; rfl)
      cases b
      · go_wp2_with (first
          | (refine wpList_load_mid rfl 83 (.tmp 14) rfl L (k * 19) rfl cs _ RNG.out Tryd.underlying83 rfl (by rw [HGL.out]; kernel_rfl) ?_)
          | (go_at_call 65; (with_reducible refine C.out.mono ?_); rintro e u ⟨rfl, hb⟩; have HB1 := Lib.hid (below_step HB.out hb); clear hb)
          | fail)
        go_roundw
        case rel => exact ⟨k + 1, by omega, by go_num, Lib.hid (by
          rw [List.take_add_one, hbk.out]
          intro b hb
          rcases List.mem_append.1 hb with h1 | h1
          · exact HP.out b h1
          · simpa using h1), HB1.out⟩
        case measure => simp [intOf]; omega
      · go_wp2_with (first
          | (refine wpList_load_mid rfl 83 (.tmp 14) rfl L (k * 19) rfl cs _ RNG.out Tryd.underlying83 rfl (by rw [HGL.out]; kernel_rfl) ?_)
          | (go_at_call 65; (with_reducible refine C.out.mono ?_); rintro e u ⟨rfl, hb⟩; have HB1 := Lib.hid (below_step HB.out hb); clear hb)
          | fail)
        go_ret
        exact ⟨ret_int (by
          have hkl := (List.getElem?_eq_some_iff.1 hbk.out).1
          rw [ixB_drop k _ 0 HP.out (by omega), List.drop_eq_getElem_cons hkl, (List.getElem?_eq_some_iff.1 hbk.out).2, ixB]
          simp), HB1.out⟩
    · obtain rfl : k = n := by omega
      have E : Hid (ixB (rs.map fun r => hitsB r.mv r.ms h) 0 = -1) := Lib.hid (by
        rw [ixB_drop k _ 0 HP.out (by simp [HN.out]), List.drop_eq_nil_of_le (by simp [HN.out])]
        rfl)
      go_wp2_with fail
      go_ret
      exact ⟨ret_int E.out.symm, hB⟩
set_option maxRecDepth 100000 in
set_option maxHeartbeats 2000000 in
theorem list_Find (w : World) (L n c : Nat) (rs : List RuleD) (h : Hdr) (hT : Tab w) (hn : n = rs.length) (hm : n ≤ 1048576) (hr : ∀ r ∈ rs, r.Good) (hL : L < w.heap.size) (hat : RulesAt w L rs) (hf : h.Fits) :
    Calls Tryd.prog 54 #[.slice (some ⟨L, 0, none⟩) n c, .agg h.vals.toArray] w fun e w' => e = .returned (.int .i64 (ixB (rs.map fun r => hitsB r.mv r.ms h) 0)) ∧ Below w.heap.size w w' := by
  have hb : Below w.heap.size w (w.alloc (.cells h.vals.toArray 31)) := (Below.refl _ _).alloc (Nat.le_refl _) _
  have C := Lib.hid (list_Index _ L n c w.heap.size rs h (hT.below hb) hn hm hr (Nat.lt_of_lt_of_le hL hb.size) (fun k r hk => rangeAt_below (hat k r hk) hb hL) hf (Blk.new w _ h.vals.toArray))
  have HB := Lib.hid hb
  clear hT hn hr hL hat hf hb
  go_enter Tryd.func54, Tryd.ntmps54
  go_wp2_with (go_at_call 64; (with_reducible refine C.out.mono ?_); rintro e u ⟨rfl, hb⟩; have HB1 := Lib.hid (below_step HB.out hb); clear hb)
  go_ret
  exact ⟨rfl, HB1.out⟩
end Go.Proofs.YtjeligbgcofaeaaDoor
