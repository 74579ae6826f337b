/- policy.Node.Holds: it returns just holdsN. -/
import Derived.Test.YtjeligbgcofaeaaDoorPoB
import Derived.Test.YtjeligbgcofaeaaDoorHdG
import Derived.Deep.CutBlock
namespace Go.Proofs.YtjeligbgcofaeaaDoor
open Go.RowKit
set_option linter.unusedVariables false
set_option linter.unusedSimpArgs false

/- tests name fields that there are -/
mutual
def fOk : Nd → Bool
  | .mk k f _ _ ks => (!decide (k = 3) || (decide (0 ≤ f) && decide (f < 9))) && fOks ks
def fOks : List Nd → Bool
  | [] => true
  | x :: r => fOk x && fOks r
end
theorem fOks_all : ∀ {ks : List Nd}, fOks ks = true → ∀ x ∈ ks, fOk x = true
  | [], _, x, hx => by cases hx
  | y :: r, h, x, hx => by
    rw [fOks, Bool.and_eq_true] at h
    rcases List.mem_cons.1 hx with rfl | hx
    · exact h.1
    · exact fOks_all h.2 x hx
mutual
theorem fOk_walk : ∀ (x : Nd) (want : Bool) (left deep : Int), (walkN x want left deep).2 = 0 → fOk x = true
  | .mk k f v m ks, want, left, deep, h => by
    rw [walkN] at h
    split at h
    · cases h
    · split at h
      · cases h
      · split at h
        · cases h
        · split at h
          · cases h
          · rename_i h4
            split at h
            · cases h
            · split at h
              · cases h
              · rw [fOk, fOks_walk ks k 0 1 left (deep - 1) h, Bool.and_true]
                by_cases hk : k = 3
                · simp only [hk, decide_true, Bool.not_true, Bool.false_or, Bool.and_eq_true, decide_eq_true_eq]
                  omega
                · simp [hk]
theorem fOks_walk : ∀ (ks : List Nd) (k : Int) (i : Nat) (all left deep : Int), (walkKs ks k i all left deep).2 = 0 → fOks ks = true
  | [], k, i, all, left, deep, _ => by rw [fOks]
  | x :: r, k, i, all, left, deep, h => by
    rw [walkKs] at h
    split at h
    · rename_i he
      exact absurd h he
    · rename_i he
      rw [fOks, fOk_walk x (wantK k i) (left - all) deep (by simpa using he), fOks_walk r k (i + 1) _ left deep h]
      rfl
end
theorem holdsAll_eq (h : Hdr) : ∀ ks : List Nd, holdsAll ks h = !(ks.any fun x => !holdsN x h)
  | [] => by rw [holdsAll]; rfl
  | x :: r => by rw [holdsAll, holdsAll_eq h r, List.any_cons]; cases holdsN x h <;> simp
theorem holdsAny_eq (h : Hdr) : ∀ ks : List Nd, holdsAny ks h = ks.any fun x => holdsN x h
  | [] => by rw [holdsAny]; rfl
  | x :: r => by rw [holdsAny, holdsAny_eq h r, List.any_cons]
def ixN : List Bool → Nat → Int
  | [], _ => -1
  | true :: _, k => (k : Int)
  | false :: r, k => ixN r (k + 1)
theorem ixN_drop : ∀ (k : Nat) (bs : List Bool) (o : Nat), (∀ b ∈ bs.take k, b = false) → k ≤ bs.length → ixN bs o = ixN (bs.drop k) (o + k)
  | 0, bs, o, _, _ => rfl
  | k + 1, [], o, _, hl => by simp at hl
  | k + 1, b :: r, o, h, hl => by
    have hb : b = false := h b (by simp)
    subst hb
    rw [ixN, ixN_drop k r (o + 1) (fun x hx => h x (by simp [hx])) (by simpa using hl), List.drop_succ_cons, show o + 1 + k = o + (k + 1) by omega]
theorem ixN_any : ∀ (bs : List Bool) (o : Nat), decide (ixN bs o ≥ 0) = bs.any id
  | [], o => rfl
  | true :: r, o => by rw [ixN]; simp
  | false :: r, o => by rw [ixN, ixN_any r (o + 1)]; simp
def HoldsC (n : Nat) : Prop := ∀ (x : Nd) (cs : List Value) (w : World) (F : Nat → Prop) (h : Hdr), Tab w → InF F w → nodeR n w F cs x → fOk x = true → h.Fits →
  Calls Tryd.prog 33 #[.agg cs.toArray, .agg h.vals.toArray] w fun e w' => e = .returned (.bool (holdsN x h)) ∧ Below w.heap.size w w'
set_option maxRecDepth 100000 in
set_option maxHeartbeats 1000000 in
theorem neg_contract (n : Nat) (IH : HoldsC n) (x : Nd) (cs : List Value) (w : World) (F : Nat → Prop) (h : Hdr) (g : Nat) (hT : Tab w) (hF : InF F w) (hn : nodeR n w F cs x) (hk : fOk x = true) (hf : h.Fits) (hg : Blk w g 31 h.vals.toArray) :
    Calls Tryd.prog 51 #[.agg cs.toArray, .pointer (some ⟨g, 0, none⟩)] w fun e w' => e = .returned (.bool (!holdsN x h)) ∧ Below w.heap.size w w' := by
  have hb : Below w.heap.size w (w.alloc (.cells cs.toArray 45)) := (Below.refl _ _).alloc (Nat.le_refl _) _
  have HB := Lib.hid hb
  have R1 := Lib.hid (hg.below hb hg.lt).range
  have R2 := Lib.hid (Blk.new w 45 cs.toArray).range
  have HL := Lib.hid ((nodeR_ok n).len hn)
  have C := Lib.hid (IH x cs _ F h (hT.below hb) (fun b hx => Nat.lt_of_lt_of_le (hF b hx) hb.size) (nodeR_below hn hF hb) hk hf)
  clear hb hg hn hT hF hk hf
  go_enter Tryd.func51, Tryd.ntmps51
  go_wp2_with (first
    | (refine wpList_load_mid rfl 45 (.tmp 2) rfl w.heap.size 0 rfl cs _ R2.out Tryd.underlying45 rfl (by rw [HL.out]; kernel_rfl) ?_)
    | (refine wpList_load_mid rfl 31 (.tmp 1) rfl g 0 rfl h.vals _ R1.out Tryd.underlying31 rfl (by kernel_rfl) ?_)
    | (go_at_call 33; (with_reducible refine C.out.mono ?_); rintro e u ⟨rfl, hb⟩; have HB1 := Lib.hid (below_step HB.out hb); clear hb)
    | fail)
  go_ret
  exact ⟨rfl, HB1.out⟩
set_option maxRecDepth 100000 in
set_option maxHeartbeats 1000000 in
theorem pos_contract (n : Nat) (IH : HoldsC n) (x : Nd) (cs : List Value) (w : World) (F : Nat → Prop) (h : Hdr) (g : Nat) (hT : Tab w) (hF : InF F w) (hn : nodeR n w F cs x) (hk : fOk x = true) (hf : h.Fits) (hg : Blk w g 31 h.vals.toArray) :
    Calls Tryd.prog 52 #[.agg cs.toArray, .pointer (some ⟨g, 0, none⟩)] w fun e w' => e = .returned (.bool (holdsN x h)) ∧ Below w.heap.size w w' := by
  have hb : Below w.heap.size w (w.alloc (.cells cs.toArray 45)) := (Below.refl _ _).alloc (Nat.le_refl _) _
  have HB := Lib.hid hb
  have R1 := Lib.hid (hg.below hb hg.lt).range
  have R2 := Lib.hid (Blk.new w 45 cs.toArray).range
  have HL := Lib.hid ((nodeR_ok n).len hn)
  have C := Lib.hid (IH x cs _ F h (hT.below hb) (fun b hx => Nat.lt_of_lt_of_le (hF b hx) hb.size) (nodeR_below hn hF hb) hk hf)
  clear hb hg hn hT hF hk hf
  go_enter Tryd.func52, Tryd.ntmps52
  go_wp2_with (first
    | (refine wpList_load_mid rfl 45 (.tmp 2) rfl w.heap.size 0 rfl cs _ R2.out Tryd.underlying45 rfl (by rw [HL.out]; kernel_rfl) ?_)
    | (refine wpList_load_mid rfl 31 (.tmp 1) rfl g 0 rfl h.vals _ R1.out Tryd.underlying31 rfl (by kernel_rfl) ?_)
    | (go_at_call 33; (with_reducible refine C.out.mono ?_); rintro e u ⟨rfl, hb⟩; have HB1 := Lib.hid (below_step HB.out hb); clear hb)
    | fail)
  go_ret
  exact ⟨rfl, HB1.out⟩
set_option maxRecDepth 100000 in
set_option maxHeartbeats 2000000 in
theorem node_Indexneg (n : Nat) (IH : HoldsC n) (w : World) (F : Nat → Prop) (A : Option Addr) (m c g : Nat) (ks : List Nd) (h : Hdr) (hT : Tab w) (hF : InF F w) (hl : listR 5 (nodeR n) w F [.slice A m c] ks) (hk : ∀ x ∈ ks, fOk x = true) (hf : h.Fits) (hg : Blk w g 31 h.vals.toArray) :
    Calls Tryd.prog 63 #[.slice A m c, .func (.func 51) #[] #[.pointer (some ⟨g, 0, none⟩)]] w fun e w' => e = .returned (.int .i64 (ixN (ks.map fun x => !holdsN x h) 0)) ∧ Below w.heap.size w w' := by
  have HT := Lib.hid hT
  have HF := Lib.hid hF
  have HLS := Lib.hid hl
  have HLEN := Lib.hid hl.len
  have HOK := Lib.hid hk
  have HG := Lib.hid hg
  have HFT := Lib.hid hf
  have hm : m ≤ 9223372036854775807 := by have := hl.len.2; unfold maxLen at this; omega
  clear hT hF hl hk hg hf
  go_enter Tryd.func63, Tryd.ntmps63
  go_wp2_with fail
  go_loopw [8] (fun i wr => ∃ k : Nat, k ≤ m ∧ i = .int .i64 k ∧ Hid (∀ b ∈ (ks.map fun x => !holdsN x h).take k, b = false) ∧ Below w.heap.size w wr) (fun i _ => m - (intOf i).toNat)
  case atStart => exact ⟨0, Nat.zero_le _, rfl, Lib.hid (by simp), Below.refl _ _⟩
  case round =>
    obtain ⟨k, hk, rfl, HP, hB⟩ := hrel
    by_cases hlt : k < m
    · obtain ⟨x, bl, off, cs, hx, hA, hFb, hnr, hrg, hcl⟩ := kid_at HLS.out hlt
      subst hA
      have RNG := Lib.hid (rangeAt_below hrg hB (HF.out bl hFb))
      have HGL := Lib.hid hcl
      have HRK := Lib.hid hx
      have HB := Lib.hid hB
      have hk0 : (0 : Int) ≤ (k : Int) := by omega
      have hk1 : (k : Int) < (m : Int) := by omega
      have C := Lib.hid (neg_contract n IH x cs wr F h g (HT.out.below hB) (fun b hb => Nat.lt_of_lt_of_le (HF.out b hb) hB.size) (nodeR_below hnr HF.out hB) (HOK.out x (List.mem_of_getElem? hx)) HFT.out (HG.out.below hB HG.out.lt))
      obtain ⟨b, hb⟩ : ∃ b, b = (!holdsN x h) := ⟨_, rfl⟩
      have HBB := Lib.hid hb
      rw [← hb] at C
      clear hx hnr hrg hcl hB hb
      have hbk : Hid ((ks.map fun x => !holdsN x h)[k]? = some b) := Lib.hid (by rw [List.getElem?_map, HRK.out, HBB.out]; rfl)
      cases b
      · go_wp2_with (first
          | (refine wpList_load_mid rfl 45 (.tmp 14) rfl bl (off + k * 5) rfl cs _ RNG.out Tryd.underlying45 rfl (by rw [HGL.out]; kernel_rfl) ?_)
          | (go_at_call 51; (with_reducible refine C.out.mono ?_); rintro e u ⟨rfl, hb⟩; have HB1 := Lib.hid (below_step HB.out hb); clear hb)
          | fail)
        go_roundw
        case rel => exact ⟨k + 1, by omega, by go_num, Lib.hid (by
          rw [List.take_add_one, hbk.out]
          intro b hb
          rcases List.mem_append.1 hb with h1 | h1
          · exact HP.out b h1
          · simpa using h1), HB1.out⟩
        case measure => simp [intOf]; omega
      · go_wp2_with (first
          | (refine wpList_load_mid rfl 45 (.tmp 14) rfl bl (off + k * 5) rfl cs _ RNG.out Tryd.underlying45 rfl (by rw [HGL.out]; kernel_rfl) ?_)
          | (go_at_call 51; (with_reducible refine C.out.mono ?_); rintro e u ⟨rfl, hb⟩; have HB1 := Lib.hid (below_step HB.out hb); clear hb)
          | fail)
        go_ret
        exact ⟨ret_int (by
          have hkl := (List.getElem?_eq_some_iff.1 hbk.out).1
          rw [ixN_drop k _ 0 HP.out (by omega), List.drop_eq_getElem_cons hkl, (List.getElem?_eq_some_iff.1 hbk.out).2, ixN]
          simp), HB1.out⟩
    · obtain rfl : k = m := by omega
      have E : Hid (ixN (ks.map fun x => !holdsN x h) 0 = -1) := Lib.hid (by
        rw [ixN_drop k _ 0 HP.out (by simp [HLEN.out.1]), List.drop_eq_nil_of_le (by simp [HLEN.out.1])]
        rfl)
      go_wp2_with fail
      go_ret
      exact ⟨ret_int E.out.symm, hB⟩
set_option maxHeartbeats 1000000 in
theorem node_Containsneg (n : Nat) (IH : HoldsC n) (w : World) (F : Nat → Prop) (A : Option Addr) (m c g : Nat) (ks : List Nd) (h : Hdr) (hT : Tab w) (hF : InF F w) (hl : listR 5 (nodeR n) w F [.slice A m c] ks) (hk : ∀ x ∈ ks, fOk x = true) (hf : h.Fits) (hg : Blk w g 31 h.vals.toArray) :
    Calls Tryd.prog 50 #[.slice A m c, .func (.func 51) #[] #[.pointer (some ⟨g, 0, none⟩)]] w fun e w' => e = .returned (.bool (ks.any fun x => !holdsN x h)) ∧ Below w.heap.size w w' := by
  have C := Lib.hid (node_Indexneg n IH w F A m c g ks h hT hF hl hk hf hg)
  have HD := ixN_any (ks.map fun x => !holdsN x h) 0
  obtain ⟨i, hi⟩ : ∃ i, i = ixN (ks.map fun x => !holdsN x h) 0 := ⟨_, rfl⟩
  rw [← hi] at C HD
  obtain ⟨b, hb⟩ : ∃ b, b = (ks.map fun x => !holdsN x h).any id := ⟨_, rfl⟩
  rw [← hb] at HD
  have HE : Hid (b = ks.any fun x => !holdsN x h) := Lib.hid (by rw [hb, List.any_map]; rfl)
  clear hT hF hl hk hf hg hi hb
  go_enter Tryd.func50, Tryd.ntmps50
  go_wp2_with (go_at_call 63; (with_reducible refine C.out.mono ?_); rintro e u ⟨rfl, hb⟩; have HB1 := Lib.hid hb; clear hb)
  go_ret
  exact ⟨congrArg (fun b => Ending.returned (.bool b)) HE.out, HB1.out⟩
set_option maxRecDepth 100000 in
set_option maxHeartbeats 2000000 in
theorem node_Indexpos (n : Nat) (IH : HoldsC n) (w : World) (F : Nat → Prop) (A : Option Addr) (m c g : Nat) (ks : List Nd) (h : Hdr) (hT : Tab w) (hF : InF F w) (hl : listR 5 (nodeR n) w F [.slice A m c] ks) (hk : ∀ x ∈ ks, fOk x = true) (hf : h.Fits) (hg : Blk w g 31 h.vals.toArray) :
    Calls Tryd.prog 63 #[.slice A m c, .func (.func 52) #[] #[.pointer (some ⟨g, 0, none⟩)]] w fun e w' => e = .returned (.int .i64 (ixN (ks.map fun x => holdsN x h) 0)) ∧ Below w.heap.size w w' := by
  have HT := Lib.hid hT
  have HF := Lib.hid hF
  have HLS := Lib.hid hl
  have HLEN := Lib.hid hl.len
  have HOK := Lib.hid hk
  have HG := Lib.hid hg
  have HFT := Lib.hid hf
  have hm : m ≤ 9223372036854775807 := by have := hl.len.2; unfold maxLen at this; omega
  clear hT hF hl hk hg hf
  go_enter Tryd.func63, Tryd.ntmps63
  go_wp2_with fail
  go_loopw [8] (fun i wr => ∃ k : Nat, k ≤ m ∧ i = .int .i64 k ∧ Hid (∀ b ∈ (ks.map fun x => holdsN x h).take k, b = false) ∧ Below w.heap.size w wr) (fun i _ => m - (intOf i).toNat)
  case atStart => exact ⟨0, Nat.zero_le _, rfl, Lib.hid (by simp), Below.refl _ _⟩
  case round =>
    obtain ⟨k, hk, rfl, HP, hB⟩ := hrel
    by_cases hlt : k < m
    · obtain ⟨x, bl, off, cs, hx, hA, hFb, hnr, hrg, hcl⟩ := kid_at HLS.out hlt
      subst hA
      have RNG := Lib.hid (rangeAt_below hrg hB (HF.out bl hFb))
      have HGL := Lib.hid hcl
      have HRK := Lib.hid hx
      have HB := Lib.hid hB
      have hk0 : (0 : Int) ≤ (k : Int) := by omega
      have hk1 : (k : Int) < (m : Int) := by omega
      have C := Lib.hid (pos_contract n IH x cs wr F h g (HT.out.below hB) (fun b hb => Nat.lt_of_lt_of_le (HF.out b hb) hB.size) (nodeR_below hnr HF.out hB) (HOK.out x (List.mem_of_getElem? hx)) HFT.out (HG.out.below hB HG.out.lt))
      obtain ⟨b, hb⟩ : ∃ b, b = (holdsN x h) := ⟨_, rfl⟩
      have HBB := Lib.hid hb
      rw [← hb] at C
      clear hx hnr hrg hcl hB hb
      have hbk : Hid ((ks.map fun x => holdsN x h)[k]? = some b) := Lib.hid (by rw [List.getElem?_map, HRK.out, HBB.out]; rfl)
      cases b
      · go_wp2_with (first
          | (refine wpList_load_mid rfl 45 (.tmp 14) rfl bl (off + k * 5) rfl cs _ RNG.out Tryd.underlying45 rfl (by rw [HGL.out]; kernel_rfl) ?_)
          | (go_at_call 52; (with_reducible refine C.out.mono ?_); rintro e u ⟨rfl, hb⟩; have HB1 := Lib.hid (below_step HB.out hb); clear hb)
          | fail)
        go_roundw
        case rel => exact ⟨k + 1, by omega, by go_num, Lib.hid (by
          rw [List.take_add_one, hbk.out]
          intro b hb
          rcases List.mem_append.1 hb with h1 | h1
          · exact HP.out b h1
          · simpa using h1), HB1.out⟩
        case measure => simp [intOf]; omega
      · go_wp2_with (first
          | (refine wpList_load_mid rfl 45 (.tmp 14) rfl bl (off + k * 5) rfl cs _ RNG.out Tryd.underlying45 rfl (by rw [HGL.out]; kernel_rfl) ?_)
          | (go_at_call 52; (with_reducible refine C.out.mono ?_); rintro e u ⟨rfl, hb⟩; have HB1 := Lib.hid (below_step HB.out hb); clear hb)
          | fail)
        go_ret
        exact ⟨ret_int (by
          have hkl := (List.getElem?_eq_some_iff.1 hbk.out).1
          rw [ixN_drop k _ 0 HP.out (by omega), List.drop_eq_getElem_cons hkl, (List.getElem?_eq_some_iff.1 hbk.out).2, ixN]
          simp), HB1.out⟩
    · obtain rfl : k = m := by omega
      have E : Hid (ixN (ks.map fun x => holdsN x h) 0 = -1) := Lib.hid (by
        rw [ixN_drop k _ 0 HP.out (by simp [HLEN.out.1]), List.drop_eq_nil_of_le (by simp [HLEN.out.1])]
        rfl)
      go_wp2_with fail
      go_ret
      exact ⟨ret_int E.out.symm, hB⟩
set_option maxHeartbeats 1000000 in
theorem node_Containspos (n : Nat) (IH : HoldsC n) (w : World) (F : Nat → Prop) (A : Option Addr) (m c g : Nat) (ks : List Nd) (h : Hdr) (hT : Tab w) (hF : InF F w) (hl : listR 5 (nodeR n) w F [.slice A m c] ks) (hk : ∀ x ∈ ks, fOk x = true) (hf : h.Fits) (hg : Blk w g 31 h.vals.toArray) :
    Calls Tryd.prog 50 #[.slice A m c, .func (.func 52) #[] #[.pointer (some ⟨g, 0, none⟩)]] w fun e w' => e = .returned (.bool (ks.any fun x => holdsN x h)) ∧ Below w.heap.size w w' := by
  have C := Lib.hid (node_Indexpos n IH w F A m c g ks h hT hF hl hk hf hg)
  have HD := ixN_any (ks.map fun x => holdsN x h) 0
  obtain ⟨i, hi⟩ : ∃ i, i = ixN (ks.map fun x => holdsN x h) 0 := ⟨_, rfl⟩
  rw [← hi] at C HD
  obtain ⟨b, hb⟩ : ∃ b, b = (ks.map fun x => holdsN x h).any id := ⟨_, rfl⟩
  rw [← hb] at HD
  have HE : Hid (b = ks.any fun x => holdsN x h) := Lib.hid (by rw [hb, List.any_map]; rfl)
  clear hT hF hl hk hf hg hi hb
  go_enter Tryd.func50, Tryd.ntmps50
  go_wp2_with (go_at_call 63; (with_reducible refine C.out.mono ?_); rintro e u ⟨rfl, hb⟩; have HB1 := Lib.hid hb; clear hb)
  go_ret
  exact ⟨congrArg (fun b => Ending.returned (.bool b)) HE.out, HB1.out⟩
set_option maxRecDepth 100000 in
set_option maxHeartbeats 4000000 in
theorem node_Holds_step (n : Nat) (IH : HoldsC n) (k f v m : Int) (ks : List Nd) (A : Option Addr) (nk c : Nat) (w : World) (F : Nat → Prop) (h : Hdr) (hT : Tab w) (hF : InF F w) (hl : listR 5 (nodeR n) w F [.slice A nk c] ks) (hfo : fOk (.mk k f v m ks) = true) (hh : h.Fits) :
    Calls Tryd.prog 33 #[.agg #[.int .i64 k, .int .i64 f, .int .u64 v, .int .u64 m, .slice A nk c], .agg h.vals.toArray] w fun e w' => e = .returned (.bool (holdsN (.mk k f v m ks) h)) ∧ Below w.heap.size w w' := by
  have HX : Hid (Below w.heap.size w ((w.alloc (.cells #[.int .i64 k, .int .i64 f, .int .u64 v, .int .u64 m, .slice A nk c] 45)).alloc (.cells h.vals.toArray 31)) ∧ Blk ((w.alloc (.cells #[.int .i64 k, .int .i64 f, .int .u64 v, .int .u64 m, .slice A nk c] 45)).alloc (.cells h.vals.toArray 31)) w.heap.size 45 #[.int .i64 k, .int .i64 f, .int .u64 v, .int .u64 m, .slice A nk c] ∧ Blk ((w.alloc (.cells #[.int .i64 k, .int .i64 f, .int .u64 v, .int .u64 m, .slice A nk c] 45)).alloc (.cells h.vals.toArray 31)) (w.heap.size + 1) 31 h.vals.toArray) := by
    have b1 := Blk.new w 45 #[.int .i64 k, .int .i64 f, .int .u64 v, .int .u64 m, .slice A nk c]
    have l1 := (Below.refl w.heap.size w).alloc (Nat.le_refl _) (.cells #[.int .i64 k, .int .i64 f, .int .u64 v, .int .u64 m, .slice A nk c] 45)
    generalize hW1 : w.alloc (.cells #[.int .i64 k, .int .i64 f, .int .u64 v, .int .u64 m, .slice A nk c] 45) = W1 at b1 l1 ⊢
    have s1 : W1.heap.size = w.heap.size + 1 := by rw [← hW1]; simp
    have b2 := Blk.new W1 31 h.vals.toArray
    have l2 := (Below.refl W1.heap.size W1).alloc (Nat.le_refl _) (.cells h.vals.toArray 31)
    rw [s1] at b2
    exact Lib.hid ⟨below_step l1 l2, b1.below l2 (by omega), b2⟩
  rw [fOk, Bool.and_eq_true] at hfo
  have hks := fOks_all hfo.2
  have hf3 := hfo.1
  have CN := Lib.hid (fun W (q : Below w.heap.size w W) g (hg : Blk W g 31 h.vals.toArray) => node_Containsneg n IH W F A nk c g ks h (hT.below q) (fun b hb => Nat.lt_of_lt_of_le (hF b hb) q.size) ((listR_ok (nodeR_ok n)).below hl q hF) hks hh hg)
  have CP := Lib.hid (fun W (q : Below w.heap.size w W) g (hg : Blk W g 31 h.vals.toArray) => node_Containspos n IH W F A nk c g ks h (hT.below q) (fun b hb => Nat.lt_of_lt_of_le (hF b hb) q.size) ((listR_ok (nodeR_ok n)).below hl q hF) hks hh hg)
  have HT := Lib.hid hT
  have HF := Lib.hid hF
  have HLS := Lib.hid hl
  have HLEN := Lib.hid hl.len
  have HKS := Lib.hid hks
  have HH := Lib.hid hh
  have HF3 := Lib.hid hf3
  obtain ⟨R, hR⟩ : ∃ R, R = holdsN (.mk k f v m ks) h := ⟨_, rfl⟩
  rw [← hR]
  rw [holdsN] at hR
  have HR := Lib.hid hR
  clear hT hF hl hfo hks hf3 hh hR
  go_enter Tryd.func33, Tryd.ntmps33
  go_upto_region 1 with fail
  refine wp_gen (fun W => Below w.heap.size w W ∧ Blk W w.heap.size 45 #[.int .i64 k, .int .i64 f, .int .u64 v, .int .u64 m, .slice A nk c] ∧ Blk W (w.heap.size + 1) 31 h.vals.toArray) HX.out ?_
  rintro W ⟨hW, hk1, hk2⟩
  have HW := Lib.hid hW
  have HTW := Lib.hid (HT.out.below hW)
  have HK2 := Lib.hid hk2
  have RH := Lib.hid (fun w' (q : Below W.heap.size W w') => (hk2.below q hk2.lt).range)
  have c0 : W.cell? ⟨w.heap.size, 0, none⟩ = some (.int .i64 k) := hk1.cell 0
  have c4 : W.cell? ⟨w.heap.size, 4, none⟩ = some (.slice A nk c) := hk1.cell 4
  have e1 : ∀ w', Below W.heap.size W w' → w'.cell? ⟨w.heap.size, 1, none⟩ = some (.int .i64 f) := fun w' q => (hk1.below q hk1.lt).cell 1
  have e2 : ∀ w', Below W.heap.size W w' → w'.cell? ⟨w.heap.size, 2, none⟩ = some (.int .u64 v) := fun w' q => (hk1.below q hk1.lt).cell 2
  have e3 : ∀ w', Below W.heap.size W w' → w'.cell? ⟨w.heap.size, 3, none⟩ = some (.int .u64 m) := fun w' q => (hk1.below q hk1.lt).cell 3
  have e4 : ∀ w', Below W.heap.size W w' → w'.cell? ⟨w.heap.size, 4, none⟩ = some (.slice A nk c) := fun w' q => (hk1.below q hk1.lt).cell 4
  have hWW : Below W.heap.size W W := Below.refl _ _
  clear hW hk1 hk2 HX
  by_cases h1 : k = 1
  · subst h1
    have E : Hid (true = R) := Lib.hid (by rw [HR.out, if_pos rfl])
    as_aux_lemma =>
    go_wp2_with fail
    go_ret
    exact ⟨congrArg (fun b => Ending.returned (.bool b)) E.out, HW.out⟩
  have q1 : (k == 1) = false := by simpa using h1
  by_cases h3 : k = 3
  · subst h3
    have hfb : 0 ≤ f ∧ f < 9 := by
      have := HF3.out
      simp only [decide_true, Bool.not_true, Bool.false_or, Bool.and_eq_true, decide_eq_true_eq] at this
      exact this
    obtain ⟨j, rfl⟩ : ∃ j : Nat, f = j := ⟨f.toNat, by omega⟩
    have GH := Lib.hid (fun W2 (q : Below W.heap.size W W2) => hd_Get h j W2 (HTW.out.below q) HH.out (by omega))
    obtain ⟨y, hy⟩ : ∃ y, y = getN h j := ⟨_, rfl⟩
    rw [← hy] at GH
    have E : Hid ((bits .and .u64 y m == v) = R) := Lib.hid (by
      have := HR.out
      rw [if_neg (by omega), if_pos rfl, Int.toNat_natCast, ← hy] at this
      rw [this]
      rfl)
    clear hy
    as_aux_lemma =>
    go_upto_region 5 with fail
    refine wp_region_held_drew (S := (fun w' => Below W.heap.size W w')) (by kernel_rfl) ?_ (fun hHeld => ?_)
    · (try dsimp only); (first | (with_reducible exact below_step (by assumption) hb1') | (repeat' (first | (with_reducible exact Below.refl _ _) | (with_reducible assumption) | (with_reducible exact Below.size (by assumption)) | (with_reducible refine Below.drew ?_))))
    refine wpAnyH_take (i := 0) (v := _) rfl (by kernel_rfl) (by kernel_rfl) (by kernel_rfl) (fun _ _ _ h => h) (yieldsIf_load_mid (by rfl) _ _ rfl _ _ rfl h.vals _ (fun w' q => RH.out w' q) Tryd.underlying31 rfl (by kernel_rfl)) (by assumption) ?_
    try simp only [List.getElem_toArray, List.getElem_cons_zero, List.getElem_cons_succ, Act.put, List.setIfInBounds_toArray, List.set_cons_zero, List.set_cons_succ]
    refine wpAnyH_take (i := 1) (v := ?_) rfl (by kernel_rfl) (by kernel_rfl) (by kernel_rfl) (fun _ _ _ h => h) (Or.inl ⟨by rfl, ?_⟩) (by assumption) ?_
    rotate_left
    · (intro w hSw; (try dsimp only at hSw); go_simp; first | done | with_reducible rfl)
    try simp only [List.getElem_toArray, List.getElem_cons_zero, List.getElem_cons_succ, Act.put, List.setIfInBounds_toArray, List.set_cons_zero, List.set_cons_succ]
    refine wpAnyH_take (i := 2) (v := ?_) rfl (by kernel_rfl) (by kernel_rfl) (by kernel_rfl) (fun _ _ _ h => h) (Or.inl ⟨by rfl, ?_⟩) (by assumption) ?_
    rotate_left
    · (intro w hSw; (try dsimp only at hSw); go_simp; first | done | with_reducible rfl)
    try simp only [List.getElem_toArray, List.getElem_cons_zero, List.getElem_cons_succ, Act.put, List.setIfInBounds_toArray, List.set_cons_zero, List.set_cons_succ]
    refine wpAnyH_take (i := 4) (v := ?_) rfl (by kernel_rfl) (by kernel_rfl) (by kernel_rfl) (fun _ _ _ h => h) (Or.inl ⟨by rfl, ?_⟩) (by assumption) ?_
    rotate_left
    · (intro w hSw; (try dsimp only at hSw); go_simp; first | done | with_reducible rfl)
    try simp only [List.getElem_toArray, List.getElem_cons_zero, List.getElem_cons_succ, Act.put, List.setIfInBounds_toArray, List.set_cons_zero, List.set_cons_succ]
    refine wpAnyH_take (i := 5) (v := ?_) rfl (by kernel_rfl) (by kernel_rfl) (by kernel_rfl) (fun _ _ _ h => h) (Or.inl ⟨by rfl, ?_⟩) (by assumption) ?_
    rotate_left
    · (intro w hSw; (try dsimp only at hSw); go_simp; first | done | with_reducible rfl)
    try simp only [List.getElem_toArray, List.getElem_cons_zero, List.getElem_cons_succ, Act.put, List.setIfInBounds_toArray, List.set_cons_zero, List.set_cons_succ]
    refine wpAnyH_take (i := 7) (v := ?_) rfl (by kernel_rfl) (by kernel_rfl) (by kernel_rfl) (fun _ _ _ h => h) (Or.inl ⟨by rfl, ?_⟩) (by assumption) ?_
    rotate_left
    · (intro w hSw; (try dsimp only at hSw); go_simp; first | done | with_reducible rfl)
    try simp only [List.getElem_toArray, List.getElem_cons_zero, List.getElem_cons_succ, Act.put, List.setIfInBounds_toArray, List.set_cons_zero, List.set_cons_succ]
    refine wpAnyH_take (i := 8) (v := ?_) rfl (by kernel_rfl) (by kernel_rfl) (by kernel_rfl) (fun _ _ _ h => h) (Or.inl ⟨by rfl, ?_⟩) (by assumption) ?_
    rotate_left
    · (intro w hSw; (try dsimp only at hSw); go_simp; first | done | with_reducible rfl)
    try simp only [List.getElem_toArray, List.getElem_cons_zero, List.getElem_cons_succ, Act.put, List.setIfInBounds_toArray, List.set_cons_zero, List.set_cons_succ]
    refine wpAnyH_ready (rs := [3]) (by kernel_rfl) (by simp) ?_
    refine AllReadyH.cons rfl (fun K hK => ?_) AllReadyH.nil
    go_simp
    (go_at_call 13; (with_reducible refine (GH.out _ hHeld).mono ?_); rintro e u1 ⟨rfl, hbq⟩; have hb1' := below_step hHeld hbq.below; have hq := hb1'; clear hbq)
    go_wp2_with fail
    refine hK.out _ _ ?_ (fun hHeldN => ?_)
    · (try dsimp only); (first | (with_reducible exact below_step (by assumption) hb1') | (repeat' (first | (with_reducible exact Below.refl _ _) | (with_reducible assumption) | (with_reducible exact Below.size (by assumption)) | (with_reducible refine Below.drew ?_))))
    clear hK K hHeld
    try clear hb1' hq
    have hHeld := hHeldN
    clear hHeldN
    try simp only [List.getElem_toArray, List.getElem_cons_zero, List.getElem_cons_succ, Act.put, List.setIfInBounds_toArray, List.set_cons_zero, List.set_cons_succ]
    refine wpAnyH_take (i := 6) (v := ?_) rfl (by kernel_rfl) (by kernel_rfl) (by kernel_rfl) (fun _ _ _ h => h) (Or.inl ⟨by rfl, ?_⟩) (by assumption) ?_
    rotate_left
    · (intro w hSw; (try dsimp only at hSw); go_simp; first | done | with_reducible rfl)
    try simp only [List.getElem_toArray, List.getElem_cons_zero, List.getElem_cons_succ, Act.put, List.setIfInBounds_toArray, List.set_cons_zero, List.set_cons_succ]
    refine wpAnyH_take (i := 9) (v := ?_) rfl (by kernel_rfl) (by kernel_rfl) (by kernel_rfl) (fun _ _ _ h => h) (Or.inl ⟨by rfl, ?_⟩) (by assumption) ?_
    rotate_left
    · (intro w hSw; (try dsimp only at hSw); go_simp; first | done | with_reducible rfl)
    try simp only [List.getElem_toArray, List.getElem_cons_zero, List.getElem_cons_succ, Act.put, List.setIfInBounds_toArray, List.set_cons_zero, List.set_cons_succ]
    refine wpAnyH_take (i := 10) (v := ?_) rfl (by kernel_rfl) (by kernel_rfl) (by kernel_rfl) (fun _ _ _ h => h) (Or.inl ⟨by rfl, ?_⟩) (by assumption) ?_
    rotate_left
    · (intro w hSw; (try dsimp only at hSw); go_simp; first | done | with_reducible rfl)
    try simp only [List.getElem_toArray, List.getElem_cons_zero, List.getElem_cons_succ, Act.put, List.setIfInBounds_toArray, List.set_cons_zero, List.set_cons_succ]
    refine wpAnyH_done (by kernel_rfl) ?_ _
    rename_i hcur
    go_wp2_with fail
    go_ret
    exact ⟨congrArg (fun b => Ending.returned (.bool b)) E.out, below_step HW.out hHeld⟩
  have q3 : (k == 3) = false := by simpa using h3
  by_cases h4 : k = 4
  · subst h4
    have E0 : Hid (R = holds1 ks h) := Lib.hid (by rw [HR.out, if_neg (by omega), if_neg (by omega), if_pos rfl])
    by_cases hn1 : nk = 1
    · subst hn1
      obtain ⟨x, b, off, cs, hx, hA, hFb, hnr, hrg, hcl⟩ := kid_at HLS.out (i := 0) (by omega)
      subst hA
      have hks1 : ks = [x] := by
        have hl1 := HLEN.out.1
        match ks, hl1, hx with
        | [y], _, hx => simp at hx; rw [hx]
      have hx1 : fOk x = true := HKS.out x (List.mem_of_getElem? hx)
      have E : Hid ((!holdsN x h) = R) := Lib.hid (by rw [E0.out, hks1, holds1])
      have RG := Lib.hid (fun w' (q : Below W.heap.size W w') => rangeAt_below hrg (below_step HW.out q) (HF.out b hFb))
      have HCL := Lib.hid hcl
      have CI := Lib.hid (fun W2 (q : Below W.heap.size W W2) => IH x cs W2 F h (HTW.out.below q) (fun b hb => Nat.lt_of_lt_of_le (HF.out b hb) (below_step HW.out q).size) (nodeR_below hnr HF.out (below_step HW.out q)) hx1 HH.out)
      obtain ⟨hb', hhb'⟩ : ∃ z, z = holdsN x h := ⟨_, rfl⟩
      rw [← hhb'] at CI E
      clear hx hFb hnr hrg hcl hks1 hx1 hhb' E0
      simp only [Nat.zero_mul, Nat.add_zero] at RG
      as_aux_lemma =>
      go_upto_region 7 with fail
      refine wp_region_held_drew (S := (fun w' => Below W.heap.size W w')) (by kernel_rfl) ?_ (fun hHeld => ?_)
      · (try dsimp only); (first | (with_reducible exact below_step (by assumption) hb1') | (repeat' (first | (with_reducible exact Below.refl _ _) | (with_reducible assumption) | (with_reducible exact Below.size (by assumption)) | (with_reducible refine Below.drew ?_))))
      refine wpAnyH_take (i := 0) (v := ?_) rfl (by kernel_rfl) (by kernel_rfl) (by kernel_rfl) (fun _ _ _ h => h) (Or.inl ⟨by rfl, ?_⟩) (by assumption) ?_
      rotate_left
      · (intro w hSw; (try dsimp only at hSw); go_simp; first | done | with_reducible rfl)
      try simp only [List.getElem_toArray, List.getElem_cons_zero, List.getElem_cons_succ, Act.put, List.setIfInBounds_toArray, List.set_cons_zero, List.set_cons_succ]
      refine wpAnyH_take (i := 1) (v := ?_) rfl (by kernel_rfl) (by kernel_rfl) (by kernel_rfl) (fun _ _ _ h => h) (Or.inl ⟨by rfl, ?_⟩) (by assumption) ?_
      rotate_left
      · (intro w hSw; (try dsimp only at hSw); go_simp; first | done | with_reducible rfl)
      try simp only [List.getElem_toArray, List.getElem_cons_zero, List.getElem_cons_succ, Act.put, List.setIfInBounds_toArray, List.set_cons_zero, List.set_cons_succ]
      refine wpAnyH_take (i := 2) (v := ?_) rfl (by kernel_rfl) (by kernel_rfl) (by kernel_rfl) (fun _ _ _ h => h) (Or.inl ⟨by rfl, ?_⟩) (by assumption) ?_
      rotate_left
      · (intro w hSw; (try dsimp only at hSw); go_simp; first | done | with_reducible rfl)
      try simp only [List.getElem_toArray, List.getElem_cons_zero, List.getElem_cons_succ, Act.put, List.setIfInBounds_toArray, List.set_cons_zero, List.set_cons_succ]
      refine wpAnyH_take (i := 3) (v := ?_) rfl (by kernel_rfl) (by kernel_rfl) (by kernel_rfl) (fun _ _ _ h => h) (Or.inl ⟨by rfl, ?_⟩) (by assumption) ?_
      rotate_left
      · (intro w hSw; (try dsimp only at hSw); go_simp; first | done | with_reducible rfl)
      try simp only [List.getElem_toArray, List.getElem_cons_zero, List.getElem_cons_succ, Act.put, List.setIfInBounds_toArray, List.set_cons_zero, List.set_cons_succ]
      refine wpAnyH_take (i := 4) (v := ?_) rfl (by kernel_rfl) (by kernel_rfl) (by kernel_rfl) (fun _ _ _ h => h) (Or.inl ⟨by rfl, ?_⟩) (by assumption) ?_
      rotate_left
      · (intro w hSw; (try dsimp only at hSw); go_simp; first | done | with_reducible rfl)
      try simp only [List.getElem_toArray, List.getElem_cons_zero, List.getElem_cons_succ, Act.put, List.setIfInBounds_toArray, List.set_cons_zero, List.set_cons_succ]
      refine wpAnyH_take (i := 5) (v := ?_) rfl (by kernel_rfl) (by kernel_rfl) (by kernel_rfl) (fun _ _ _ h => h) (Or.inl ⟨by rfl, ?_⟩) (by assumption) ?_
      rotate_left
      · (intro w hSw; (try dsimp only at hSw); go_simp; first | done | with_reducible rfl)
      try simp only [List.getElem_toArray, List.getElem_cons_zero, List.getElem_cons_succ, Act.put, List.setIfInBounds_toArray, List.set_cons_zero, List.set_cons_succ]
      refine wpAnyH_take (i := 6) (v := ?_) rfl (by kernel_rfl) (by kernel_rfl) (by kernel_rfl) (fun _ _ _ h => h) (Or.inl ⟨by rfl, ?_⟩) (by assumption) ?_
      rotate_left
      · (intro w hSw; (try dsimp only at hSw); go_simp; first | done | with_reducible rfl)
      try simp only [List.getElem_toArray, List.getElem_cons_zero, List.getElem_cons_succ, Act.put, List.setIfInBounds_toArray, List.set_cons_zero, List.set_cons_succ]
      refine wpAnyH_take (i := 7) (v := ?_) rfl (by kernel_rfl) (by kernel_rfl) (by kernel_rfl) (fun _ _ _ h => h) (Or.inl ⟨by rfl, ?_⟩) (by assumption) ?_
      rotate_left
      · (intro w hSw; (try dsimp only at hSw); go_simp; first | done | with_reducible rfl)
      try simp only [List.getElem_toArray, List.getElem_cons_zero, List.getElem_cons_succ, Act.put, List.setIfInBounds_toArray, List.set_cons_zero, List.set_cons_succ]
      refine wpAnyH_take (i := 8) (v := _) rfl (by kernel_rfl) (by kernel_rfl) (by kernel_rfl) (fun _ _ _ h => h) (yieldsIf_load_mid (by rfl) _ _ rfl _ _ rfl cs _ (fun w' q => RG.out w' q) Tryd.underlying45 rfl (by rw [HCL.out]; kernel_rfl)) (by assumption) ?_
      try simp only [List.getElem_toArray, List.getElem_cons_zero, List.getElem_cons_succ, Act.put, List.setIfInBounds_toArray, List.set_cons_zero, List.set_cons_succ]
      refine wpAnyH_take (i := 9) (v := _) rfl (by kernel_rfl) (by kernel_rfl) (by kernel_rfl) (fun _ _ _ h => h) (yieldsIf_load_mid (by rfl) _ _ rfl _ _ rfl h.vals _ (fun w' q => RH.out w' q) Tryd.underlying31 rfl (by kernel_rfl)) (by assumption) ?_
      try simp only [List.getElem_toArray, List.getElem_cons_zero, List.getElem_cons_succ, Act.put, List.setIfInBounds_toArray, List.set_cons_zero, List.set_cons_succ]
      refine wpAnyH_ready (rs := [10]) (by kernel_rfl) (by simp) ?_
      refine AllReadyH.cons rfl (fun K hK => ?_) AllReadyH.nil
      go_simp
      (go_at_call 33; (with_reducible refine (CI.out _ hHeld).mono ?_); rintro e u1 ⟨rfl, hbq⟩; have hb1' := below_step hHeld hbq; have hq := hb1'; clear hbq)
      go_wp2_with fail
      refine hK.out _ _ ?_ (fun hHeldN => ?_)
      · (try dsimp only); (first | (with_reducible exact below_step (by assumption) hb1') | (repeat' (first | (with_reducible exact Below.refl _ _) | (with_reducible assumption) | (with_reducible exact Below.size (by assumption)) | (with_reducible refine Below.drew ?_))))
      clear hK K hHeld
      try clear hb1' hq
      have hHeld := hHeldN
      clear hHeldN
      try simp only [List.getElem_toArray, List.getElem_cons_zero, List.getElem_cons_succ, Act.put, List.setIfInBounds_toArray, List.set_cons_zero, List.set_cons_succ]
      refine wpAnyH_take (i := 11) (v := ?_) rfl (by kernel_rfl) (by kernel_rfl) (by kernel_rfl) (fun _ _ _ h => h) (Or.inl ⟨by rfl, ?_⟩) (by assumption) ?_
      rotate_left
      · (intro w hSw; (try dsimp only at hSw); go_simp; first | done | with_reducible rfl)
      try simp only [List.getElem_toArray, List.getElem_cons_zero, List.getElem_cons_succ, Act.put, List.setIfInBounds_toArray, List.set_cons_zero, List.set_cons_succ]
      refine wpAnyH_take (i := 12) (v := ?_) rfl (by kernel_rfl) (by kernel_rfl) (by kernel_rfl) (fun _ _ _ h => h) (Or.inl ⟨by rfl, ?_⟩) (by assumption) ?_
      rotate_left
      · (intro w hSw; (try dsimp only at hSw); go_simp; first | done | with_reducible rfl)
      try simp only [List.getElem_toArray, List.getElem_cons_zero, List.getElem_cons_succ, Act.put, List.setIfInBounds_toArray, List.set_cons_zero, List.set_cons_succ]
      refine wpAnyH_take (i := 13) (v := ?_) rfl (by kernel_rfl) (by kernel_rfl) (by kernel_rfl) (fun _ _ _ h => h) (Or.inl ⟨by rfl, ?_⟩) (by assumption) ?_
      rotate_left
      · (intro w hSw; (try dsimp only at hSw); go_simp; first | done | with_reducible rfl)
      try simp only [List.getElem_toArray, List.getElem_cons_zero, List.getElem_cons_succ, Act.put, List.setIfInBounds_toArray, List.set_cons_zero, List.set_cons_succ]
      refine wpAnyH_done (by kernel_rfl) ?_ _
      rename_i hcur
      go_wp2_with fail
      go_ret
      exact ⟨congrArg (fun b => Ending.returned (.bool b)) E.out, below_step HW.out hHeld⟩
    · have E : Hid (false = R) := Lib.hid (by
        rw [E0.out]
        have hl1 := HLEN.out.1
        match ks, hl1 with
        | [], _ => rw [holds1]; simp
        | [y], hl1 => simp at hl1; exact absurd hl1 hn1
        | y :: z :: r, _ => rw [holds1]; simp)
      have dn : ((nk : Int) == 1) = false := by simp; omega
      as_aux_lemma =>
      go_upto_region 7 with fail
      refine wp_region_held_drew (S := (fun w' => Below W.heap.size W w')) (by kernel_rfl) ?_ (fun hHeld => ?_)
      · (try dsimp only); (first | (with_reducible exact below_step (by assumption) hb1') | (repeat' (first | (with_reducible exact Below.refl _ _) | (with_reducible assumption) | (with_reducible exact Below.size (by assumption)) | (with_reducible refine Below.drew ?_))))
      refine wpAnyH_take (i := 0) (v := ?_) rfl (by kernel_rfl) (by kernel_rfl) (by kernel_rfl) (fun _ _ _ h => h) (Or.inl ⟨by rfl, ?_⟩) (by assumption) ?_
      rotate_left
      · (intro w hSw; (try dsimp only at hSw); go_simp; first | done | with_reducible rfl)
      try simp only [List.getElem_toArray, List.getElem_cons_zero, List.getElem_cons_succ, Act.put, List.setIfInBounds_toArray, List.set_cons_zero, List.set_cons_succ]
      refine wpAnyH_take (i := 1) (v := ?_) rfl (by kernel_rfl) (by kernel_rfl) (by kernel_rfl) (fun _ _ _ h => h) (Or.inl ⟨by rfl, ?_⟩) (by assumption) ?_
      rotate_left
      · (intro w hSw; (try dsimp only at hSw); go_simp; first | done | with_reducible rfl)
      try simp only [List.getElem_toArray, List.getElem_cons_zero, List.getElem_cons_succ, Act.put, List.setIfInBounds_toArray, List.set_cons_zero, List.set_cons_succ]
      refine wpAnyH_take (i := 2) (v := ?_) rfl (by kernel_rfl) (by kernel_rfl) (by kernel_rfl) (fun _ _ _ h => h) (Or.inl ⟨by rfl, ?_⟩) (by assumption) ?_
      rotate_left
      · (intro w hSw; (try dsimp only at hSw); go_simp; first | done | with_reducible rfl)
      try simp only [List.getElem_toArray, List.getElem_cons_zero, List.getElem_cons_succ, Act.put, List.setIfInBounds_toArray, List.set_cons_zero, List.set_cons_succ]
      refine wpAnyH_take (i := 3) (v := ?_) rfl (by kernel_rfl) (by kernel_rfl) (by kernel_rfl) (fun _ _ _ h => h) (Or.inl ⟨by rfl, ?_⟩) (by assumption) ?_
      rotate_left
      · (intro w hSw; (try dsimp only at hSw); go_simp; first | done | with_reducible rfl)
      try simp only [List.getElem_toArray, List.getElem_cons_zero, List.getElem_cons_succ, Act.put, List.setIfInBounds_toArray, List.set_cons_zero, List.set_cons_succ]
      refine wpAnyH_take (i := 4) (v := ?_) rfl (by kernel_rfl) (by kernel_rfl) (by kernel_rfl) (fun _ _ _ h => h) (Or.inl ⟨by rfl, ?_⟩) (by assumption) ?_
      rotate_left
      · (intro w hSw; (try dsimp only at hSw); go_simp; first | done | with_reducible rfl)
      try simp only [List.getElem_toArray, List.getElem_cons_zero, List.getElem_cons_succ, Act.put, List.setIfInBounds_toArray, List.set_cons_zero, List.set_cons_succ]
      refine wpAnyH_take (i := 5) (v := undef) rfl (by kernel_rfl) (by kernel_rfl) (by kernel_rfl) (fun _ _ _ h => h) (Or.inr ⟨by rfl, rfl⟩) (by assumption) ?_
      try simp only [List.getElem_toArray, List.getElem_cons_zero, List.getElem_cons_succ, Act.put, List.setIfInBounds_toArray, List.set_cons_zero, List.set_cons_succ]
      refine wpAnyH_take (i := 6) (v := undef) rfl (by kernel_rfl) (by kernel_rfl) (by kernel_rfl) (fun _ _ _ h => h) (Or.inr ⟨by rfl, rfl⟩) (by assumption) ?_
      try simp only [List.getElem_toArray, List.getElem_cons_zero, List.getElem_cons_succ, Act.put, List.setIfInBounds_toArray, List.set_cons_zero, List.set_cons_succ]
      refine wpAnyH_take (i := 7) (v := undef) rfl (by kernel_rfl) (by kernel_rfl) (by kernel_rfl) (fun _ _ _ h => h) (Or.inr ⟨by rfl, rfl⟩) (by assumption) ?_
      try simp only [List.getElem_toArray, List.getElem_cons_zero, List.getElem_cons_succ, Act.put, List.setIfInBounds_toArray, List.set_cons_zero, List.set_cons_succ]
      refine wpAnyH_take (i := 8) (v := undef) rfl (by kernel_rfl) (by kernel_rfl) (by kernel_rfl) (fun _ _ _ h => h) (Or.inr ⟨by rfl, rfl⟩) (by assumption) ?_
      try simp only [List.getElem_toArray, List.getElem_cons_zero, List.getElem_cons_succ, Act.put, List.setIfInBounds_toArray, List.set_cons_zero, List.set_cons_succ]
      refine wpAnyH_take (i := 9) (v := undef) rfl (by kernel_rfl) (by kernel_rfl) (by kernel_rfl) (fun _ _ _ h => h) (Or.inr ⟨by rfl, rfl⟩) (by assumption) ?_
      try simp only [List.getElem_toArray, List.getElem_cons_zero, List.getElem_cons_succ, Act.put, List.setIfInBounds_toArray, List.set_cons_zero, List.set_cons_succ]
      refine wpAnyH_take (i := 10) (v := undef) rfl (by kernel_rfl) (by kernel_rfl) (by kernel_rfl) (fun _ _ _ h => h) (Or.inr ⟨by rfl, rfl⟩) (by assumption) ?_
      try simp only [List.getElem_toArray, List.getElem_cons_zero, List.getElem_cons_succ, Act.put, List.setIfInBounds_toArray, List.set_cons_zero, List.set_cons_succ]
      refine wpAnyH_take (i := 11) (v := undef) rfl (by kernel_rfl) (by kernel_rfl) (by kernel_rfl) (fun _ _ _ h => h) (Or.inr ⟨by rfl, rfl⟩) (by assumption) ?_
      try simp only [List.getElem_toArray, List.getElem_cons_zero, List.getElem_cons_succ, Act.put, List.setIfInBounds_toArray, List.set_cons_zero, List.set_cons_succ]
      refine wpAnyH_take (i := 12) (v := ?_) rfl (by kernel_rfl) (by kernel_rfl) (by kernel_rfl) (fun _ _ _ h => h) (Or.inl ⟨by rfl, ?_⟩) (by assumption) ?_
      rotate_left
      · (intro w hSw; (try dsimp only at hSw); go_simp; first | done | with_reducible rfl)
      try simp only [List.getElem_toArray, List.getElem_cons_zero, List.getElem_cons_succ, Act.put, List.setIfInBounds_toArray, List.set_cons_zero, List.set_cons_succ]
      refine wpAnyH_take (i := 13) (v := ?_) rfl (by kernel_rfl) (by kernel_rfl) (by kernel_rfl) (fun _ _ _ h => h) (Or.inl ⟨by rfl, ?_⟩) (by assumption) ?_
      rotate_left
      · (intro w hSw; (try dsimp only at hSw); go_simp; first | done | with_reducible rfl)
      try simp only [List.getElem_toArray, List.getElem_cons_zero, List.getElem_cons_succ, Act.put, List.setIfInBounds_toArray, List.set_cons_zero, List.set_cons_succ]
      refine wpAnyH_done (by kernel_rfl) ?_ _
      go_wp2_with fail
      go_ret
      exact ⟨congrArg (fun b => Ending.returned (.bool b)) E.out, HW.out.drew⟩
  have q4 : (k == 4) = false := by simpa using h4
  by_cases h5 : k = 5
  · subst h5
    have E : Hid ((!(ks.any fun x => !holdsN x h)) = R) := Lib.hid (by rw [HR.out, if_neg (by omega), if_neg (by omega), if_neg (by omega), if_pos rfl, holdsAll_eq])
    have C := Lib.hid (CN.out W HW.out (w.heap.size + 1) HK2.out)
    obtain ⟨y, hy⟩ : ∃ y, y = ks.any fun x => !holdsN x h := ⟨_, rfl⟩
    rw [← hy] at E C
    clear hy
    as_aux_lemma =>
    go_wp2_with (go_at_call 50; (with_reducible refine C.out.mono ?_); rintro e u ⟨rfl, hb⟩; have HB1 := Lib.hid (below_step HW.out hb); clear hb)
    go_ret
    exact ⟨congrArg (fun b => Ending.returned (.bool b)) E.out, HB1.out⟩
  have q5 : (k == 5) = false := by simpa using h5
  by_cases h6 : k = 6
  · subst h6
    have E : Hid ((ks.any fun x => holdsN x h) = R) := Lib.hid (by rw [HR.out, if_neg (by omega), if_neg (by omega), if_neg (by omega), if_neg (by omega), if_pos rfl, holdsAny_eq])
    have C := Lib.hid (CP.out W HW.out (w.heap.size + 1) HK2.out)
    obtain ⟨y, hy⟩ : ∃ y, y = ks.any fun x => holdsN x h := ⟨_, rfl⟩
    rw [← hy] at E C
    clear hy
    as_aux_lemma =>
    go_wp2_with (go_at_call 50; (with_reducible refine C.out.mono ?_); rintro e u ⟨rfl, hb⟩; have HB1 := Lib.hid (below_step HW.out hb); clear hb)
    go_ret
    exact ⟨congrArg (fun b => Ending.returned (.bool b)) E.out, HB1.out⟩
  have q6 : (k == 6) = false := by simpa using h6
  have E : Hid (false = R) := Lib.hid (by rw [HR.out, if_neg h1, if_neg h3, if_neg h4, if_neg h5, if_neg h6])
  as_aux_lemma =>
  go_wp2_with fail
  go_ret
  exact ⟨congrArg (fun b => Ending.returned (.bool b)) E.out, HW.out⟩
theorem node_Holds : ∀ n, HoldsC n
  | 0 => fun x cs w F h _ _ hn => hn.elim
  | n + 1 => fun x cs w F h hT hF hn hfo hh => by
    obtain ⟨k, f, v, m, ks⟩ := x
    obtain ⟨sl, rfl, hfit, hl⟩ := hn
    obtain ⟨A, c, he, h1, h2, h3⟩ := hl
    cases he
    exact node_Holds_step n (node_Holds n) k f v m ks A _ c w F h hT hF ⟨A, c, rfl, h1, h2, h3⟩ hfo hh
end Go.Proofs.YtjeligbgcofaeaaDoor
