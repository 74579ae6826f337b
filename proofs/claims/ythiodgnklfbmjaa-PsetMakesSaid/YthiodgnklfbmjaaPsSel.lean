/- The reference's Sorted. -/
import Derived.Test.YthiodgnklfbmjaaPsItems
namespace Go.Proofs.Ythiodgnklfbmjaa
open Go.RowKit
set_option linter.unusedVariables false
set_option linter.unusedSimpArgs false

theorem item_info : (Try.prog.info? 48).map (fun i => (i.zero, i.size, i.bytes)) = some (some (.agg #[.int .u32 0, .int .i64 0, .int .i64 0]), 3, 24) := by kernel_rfl
structure ItR (w : World) (F : Nat → Prop) (W : World) (v : Value) (xs : List Pfx) : Prop where
  below : Below w.heap.size w W
  own : ownR 48 3 itemR W F w.heap.size v xs
theorem ItR.step {w : World} {F : Nat → Prop} {W W' : World} {v : Value} {xs : List Pfx} (h : ItR w F W v xs) (hF : InF F w) (hb : Below W.heap.size W W') : ItR w F W' v xs :=
  ⟨below_step h.below hb, h.own.below itemR_ok hb (hF.below h.below)⟩
theorem ItR.push {w : World} {F : Nat → Prop} {wr w' : World} {v v' : Value} {xs ys : List Pfx} (h : ItR w F wr v xs) (hv : ownR 48 3 itemR w' F w.heap.size v' ys) (hg : wr.grownBy w' v.ownBlock) : ItR w F w' v' ys :=
  ⟨below_grownO h.below hg fun g e => (h.own.lt g e).1, hv⟩
def itemC (q : Pfx) : List Value := [.int .u32 q.addr, .int .i64 q.len, .int .i64 0]
theorem item_one {w : World} {F : Nat → Prop} (q : Pfx) (hq : q.Fits) : Groups itemR w F (itemC q) [q] := Groups.single ⟨rfl, hq⟩
theorem item_runs (b off n k c : Nat) (hk : k < n) (hc : n ≤ c) (hm : c ≤ 9223372036854775807) (w : World) : (Instr.slice 43 (.slice (some ⟨b, off, none⟩) n c) none (some (.int .i64 (k : Int))) none).run Try.prog w = .ok (.slice (some ⟨b, off, none⟩) k c) w ∧
    (Instr.slice 43 (.slice (some ⟨b, off, none⟩) n c) (some (.int .i64 ((k : Int) + 1))) none none).run Try.prog w = .ok (.slice (if c = k + 1 then some ⟨b, off, none⟩ else some ⟨b, off + (k + 1) * 3, none⟩) (n - (k + 1)) (c - (k + 1))) w := by
  constructor
  · go_simp
    intro h
    omega
  · by_cases h : c = k + 1
    · subst h
      rw [if_pos rfl]
      obtain rfl : n = k + 1 := by omega
      go_simp
      intro h
      omega
    · rw [if_neg h]
      go_simp
      intro h
      have := h (by omega)
      omega
theorem item_rest {w : World} {F : Nat → Prop} {b off n c k : Nat} {xs : List Pfx} (hl : listR 3 itemR w F [.slice (some ⟨b, off, none⟩) n c] xs) (hk : k < n) : listR 3 itemR w F [.slice (if c = k + 1 then some ⟨b, off, none⟩ else some ⟨b, off + (k + 1) * 3, none⟩) (n - (k + 1)) (c - (k + 1))] (xs.drop (k + 1)) := by
  obtain ⟨h1, h2, h3⟩ := hl.len
  by_cases hc : c = k + 1
  · rw [if_pos hc]
    have h0 : xs.drop (k + 1) = [] := List.drop_of_length_le (by omega)
    rw [h0]
    exact ⟨_, _, by rw [show n - (k + 1) = ([] : List Pfx).length by simp; omega], by simp, by omega, fun k x hx => by simp at hx⟩
  · rw [if_neg hc]
    have hp := hl.part (i := k + 1) (j := n) (by omega) (Nat.le_refl _)
    rw [List.take_of_length_le (by omega)] at hp
    exact hp
theorem item_first {w : World} {F : Nat → Prop} {b off n c k : Nat} {xs : List Pfx} (hl : listR 3 itemR w F [.slice (some ⟨b, off, none⟩) n c] xs) (hk : k < n) : listR 3 itemR w F [.slice (some ⟨b, off, none⟩) k c] (xs.take k) := by
  have hp := hl.part (i := 0) (j := k) (by omega) (by omega)
  simpa using hp
/-- what the selection keeps -/
structure SelL (xs os ls : List Pfx) : Prop where
  so : sortedP os
  lt : ∀ o ∈ os, ∀ l ∈ ls, cmpP o l < 0
  nd : ls.Nodup
  mem : ∀ p, (p ∈ os ∨ p ∈ ls) ↔ p ∈ xs
theorem SelL.step {xs os ls : List Pfx} (h : SelL xs os ls) {k : Nat} {z : Pfx} (hz : ls[k]? = some z) (hmin : ∀ (t : Nat) (y : Pfx), t < ls.length → ls[t]? = some y → ¬ cmpP y z < 0) : SelL xs (os ++ [z]) (ls.take k ++ ls.drop (k + 1)) := by
  obtain ⟨hk, hze⟩ := List.getElem?_eq_some_iff.1 hz
  have hs : ls = ls.take k ++ z :: ls.drop (k + 1) := by rw [← hze, ← List.drop_eq_getElem_cons hk, List.take_append_drop]
  have hnd := h.nd
  rw [hs, List.nodup_append] at hnd
  obtain ⟨n1, n2, n3⟩ := hnd
  rw [List.nodup_cons] at n2
  have hsub : ∀ p, p ∈ ls.take k ++ ls.drop (k + 1) → p ∈ ls ∧ p ≠ z := fun p hp => by
    rcases List.mem_append.1 hp with h1 | h1
    · exact ⟨List.mem_of_mem_take h1, fun e => n3 p h1 z (by simp) e⟩
    · exact ⟨List.mem_of_mem_drop h1, fun e => n2.1 (e ▸ h1)⟩
  have hlt : ∀ p, p ∈ ls.take k ++ ls.drop (k + 1) → cmpP z p < 0 := fun p hp => by
    obtain ⟨h1, h2⟩ := hsub p hp
    obtain ⟨t, ht⟩ := List.getElem?_of_mem h1
    have h3 := hmin t p (List.getElem?_eq_some_iff.1 ht).1 ht
    exact cmpP_gt h3 (fun e => h2 (cmpP_zero.1 e))
  refine ⟨List.pairwise_append.2 ⟨h.so, by simp, fun a ha b hb => ?_⟩, fun o ho l hl => ?_, ?_, fun p => ?_⟩
  · simp at hb
    subst hb
    exact h.lt a ha _ (List.mem_of_getElem? hz)
  · rcases List.mem_append.1 ho with h1 | h1
    · exact h.lt o h1 l (hsub l hl).1
    · simp at h1
      subst h1
      exact hlt l hl
  · exact List.nodup_append.2 ⟨n1, n2.2, fun a ha b hb => n3 a ha b (by simp [hb])⟩
  · rw [← h.mem p]
    constructor
    · rintro (h1 | h1)
      · rcases List.mem_append.1 h1 with h2 | h2
        · exact .inl h2
        · simp at h2
          subst h2
          exact .inr (List.mem_of_getElem? hz)
      · exact .inr (hsub p h1).1
    · rintro (h1 | h1)
      · exact .inl (by simp [h1])
      · rw [hs] at h1
        rcases List.mem_append.1 h1 with h2 | h2
        · exact .inr (by simp [h2])
        · rcases List.mem_cons.1 h2 with h3 | h3
          · exact .inl (by simp [h3])
          · exact .inr (by simp [h3])
structure SelR (w : World) (F : Nat → Prop) (W : World) (F1 : Nat → Prop) (o : Value) (os : List Pfx) (v : Value) (ls : List Pfx) : Prop where
  grew : Grew w F W F1
  own : ownR 48 3 itemR W F1 w.heap.size o os
  left : listR 3 itemR W F1 [v] ls
theorem SelR.step {w : World} {F : Nat → Prop} {W W' : World} {F1 : Nat → Prop} {o : Value} {os : List Pfx} {v : Value} {ls : List Pfx} (h : SelR w F W F1 o os v ls) (hb : Below W.heap.size W W') : SelR w F W' F1 o os v ls :=
  ⟨h.grew.trans ⟨hb, fun _ h => h, fun _ h => .inl h, h.grew.lt.below hb⟩, h.own.below itemR_ok hb h.grew.lt, (listR_ok itemR_ok).below h.left hb h.grew.lt⟩
theorem SelR.push {w : World} {F : Nat → Prop} {W W' : World} {F1 : Nat → Prop} {o o' : Value} {os os' : List Pfx} {v : Value} {ls : List Pfx} (h : SelR w F W F1 o os v ls) (hv : ownR 48 3 itemR W' F1 w.heap.size o' os') (hg : W.grownBy W' o.ownBlock) : SelR w F W' F1 o' os' v ls := by
  obtain ⟨_, _, _, hno⟩ := h.own
  have hk : ∀ b, F1 b → W'.heap[b]? = W.heap[b]? := fun b hb => hg.block b (h.grew.lt b hb) fun e => hno b e.symm hb
  exact ⟨h.grew.grown hg fun g e => (h.own.lt g e).1, hv, (listR_ok itemR_ok).keep h.left hk fun _ h => h⟩
theorem SelR.next {w : World} {F : Nat → Prop} {W W' : World} {F1 : Nat → Prop} {o : Value} {os : List Pfx} {v v' : Value} {ls ls' : List Pfx} (h : SelR w F W F1 o os v ls) (hq : Below W.heap.size W W') (hv : ownR 48 3 itemR W' F1 W.heap.size v' ls') : SelR w F W' (fun b => F1 b ∨ v'.ownBlock = some b) o os v' ls' := by
  have g : Grew W F1 W' (fun b => F1 b ∨ v'.ownBlock = some b) := Grew.own ⟨hq, fun _ h => h, fun _ h => .inl h, h.grew.lt.below hq⟩ hv (Nat.le_refl _)
  exact ⟨h.grew.trans g, h.own.grew itemR_ok g h.grew.lt, hv.freeze itemR_ok⟩
theorem ownR.form3 {α : Type} {e : TypeId} {size : Nat} {R : Rep α} {w : World} {F : Nat → Prop} {base : Nat} {v : Value} {xs : List α} (h : ownR e size R w F base v xs) : ∃ A n c, v = .slice A n c ∧ Hid (n = xs.length) := by
  obtain ⟨A, c, e⟩ := h.form
  exact ⟨A, _, c, e, Lib.hid rfl⟩
def MinTo (ls : List Pfx) (t kk : Nat) : Prop := ∀ (s : Nat) (y z : Pfx), s < t → ls[s]? = some y → ls[kk]? = some z → ¬ cmpP y z < 0
set_option maxRecDepth 100000 in
set_option maxHeartbeats 8000000 in
theorem ref_Sorted (w : World) (F : Nat → Prop) (A : Option Addr) (m c : Nat) (xs : List Pfx) (hl : listR 3 itemR w F [.slice A m c] xs) (hF : InF F w) (hg : ∀ p ∈ xs, p.good = true) (hm : m ≤ 60) (hnd : xs.Nodup) :
    Calls Try.prog 20 #[.slice A m c, .int .u32 0, .int .i64 0] w fun e w' => ∃ A' n' c' F' ys, e = .returned (.slice A' n' c') ∧ Grew w F w' F' ∧ listR 3 itemR w' F' [.slice A' n' c'] ys ∧ sortedP ys ∧ ∀ p, p ∈ ys ↔ p ∈ xs := by
  obtain ⟨ii, hii, hi0, hi1, hi2⟩ := info_parts item_info
  have HL := Lib.hid hl
  have HM := Lib.hid hl.len.1
  have HI : Hid (ItR w F (w.alloc (.cells #[] 48)) (.slice (some ⟨w.heap.size, 0, none⟩) 0 0) (xs.take 0)) := Lib.hid ⟨(Below.refl _ _).alloc (Nat.le_refl _) _, ownR.made w _ (Nat.le_refl _) hF⟩
  have HND := Lib.hid hnd
  have HGD := Lib.hid hg
  clear hl hnd hg
  go_enter Try.func20, Try.ntmps20
  go_wp2_with fail
  go_loopw [7, 16] (fun v i wr => ∃ A1 m1 c1, ∃ k : Nat, k ≤ m ∧ i = .int .i64 k ∧ v = .slice A1 m1 c1 ∧ Hid (ItR w F wr (.slice A1 m1 c1) (xs.take k))) (fun _ i _ => m - (intOf i).toNat)
  case atStart => exact ⟨_, _, _, 0, Nat.zero_le _, rfl, rfl, HI⟩
  case round =>
    clear HI
    obtain ⟨A1, m1, c1, k, hk, rfl, rfl, HI⟩ := hrel
    have hB := HI.out.below
    by_cases hlt : k < m
    · obtain ⟨x, l, b, off, hx, rfl, hFb, hf, e1, e2, e3⟩ := item_at HL.out hlt
      have d1 := (hB.cell (p := ⟨b, off + k * 3, none⟩) (hF b hFb)).trans e1
      have d2 := (hB.cell (p := ⟨b, off + k * 3 + 1, none⟩) (hF b hFb)).trans e2
      have d3 := (hB.cell (p := ⟨b, off + k * 3 + 2, none⟩) (hF b hFb)).trans e3
      have hk0 : (0 : Int) ≤ (k : Int) := by omega
      have hk1 : (k : Int) < (m : Int) := by omega
      have HC := Lib.hid (fun W => ref_Covers0 x l W hf (HGD.out _ (List.mem_of_getElem? hx)))
      have HX := Lib.hid hx
      have Hf := Lib.hid hf
      have hba : Below wr.heap.size wr (wr.alloc (.cells #[.int .u32 x, .int .i64 l, .int .i64 0] 48)) := (Below.refl _ _).alloc (Nat.le_refl _) _
      have HIa := Lib.hid (HI.out.step hF hba)
      have HNa := Lib.hid (Blk.new wr 48 #[.int .u32 x, .int .i64 l, .int .i64 0])
      clear hx hf e1 e2 e3 hba hB
      go_wp2_with fail
      refine (HC.out _).mono ?_
      rintro e w3 ⟨rfl, hb3⟩
      have HI3 := Lib.hid (HIa.out.step hF hb3)
      have HN3 := Lib.hid (HNa.out.below hb3 HNa.out.lt)
      have z1 := HN3.out.cell 0
      have z2 := HN3.out.cell 1
      have z3 := HN3.out.cell 2
      have hb4 : Below w3.heap.size w3 (w3.alloc (.cells (itemC ⟨x, l⟩).toArray 48)) := (Below.refl _ _).alloc (Nat.le_refl _) _
      have HI4 := Lib.hid (HI3.out.step hF hb4)
      have h63 : Hid ((xs.take k).length + 1 ≤ 9223372036854775807) := by show _ ≤ _; rw [List.length_take]; omega
      have h64 : Hid (((xs.take k).length + 1) * 24 ≤ 140737488355328) := by show _ ≤ _; rw [List.length_take]; omega
      have hnews := Lib.hid (cells_row_new w3 48 (itemC ⟨x, l⟩))
      have hone : Hid (Groups itemR (w3.alloc (.cells (itemC ⟨x, l⟩).toArray 48)) F (itemC ⟨x, l⟩) [⟨x, l⟩]) := Lib.hid (item_one _ Hf.out)
      have HF4 := Lib.hid (hF.below HI4.out.below)
      have hbs := Lib.hid HI4.out.below.size
      clear hb3 hb4 d1 d2 d3 HIa HNa
      go_wp2_with (at_builtin; refine wpList_pushB _ rfl (.tmp 27) (.tmp 29) 43 rfl itemR_ok w.heap.size 48 ii _ 24 Try.underlying43 hii hi0 hi1 hi2 rfl (by decide) F _ (xs.take k) rfl HI4.out.own ⟨w3.heap.size, 0, none⟩ 1 1 (itemC ⟨x, l⟩) [⟨x, l⟩] rfl rfl hnews.out hone.out HF4.out h63.out h64.out hbs.out ?_)
      intro v5 w5 hv5 hg5 hn5
      obtain ⟨A5, c5, rfl⟩ := hv5.form
      have HI5 := Lib.hid (HI4.out.push hv5 hg5)
      have HE5 : Hid (xs.take (k + 1) = xs.take k ++ [⟨x, l⟩]) := Lib.hid (take_snoc HX.out)
      clear hv5 hg5 hn5 z1 z2 z3
      go_wp2_with fail
      go_roundw
      case rel => exact ⟨_, _, _, k + 1, by omega, by go_num, rfl, Lib.hid (by rw [HE5.out]; exact HI5.out)⟩
      case measure => simp [intOf]; omega
    · have hkk : xs.take k = xs := List.take_of_length_le (by have := HM.out; omega)
      rw [hkk] at HI
      obtain ⟨F1, hF1⟩ : ∃ F1, F1 = fun b => F b ∨ (Value.slice A1 m1 c1).ownBlock = some b := ⟨_, rfl⟩
      have hgr : Grew w F wr F1 := by
        rw [hF1]
        exact Grew.own ⟨HI.out.below, fun _ h => h, fun _ h => .inl h, hF.below HI.out.below⟩ HI.out.own (Nat.le_refl _)
      have hlf : listR 3 itemR wr F1 [.slice A1 m1 c1] xs := by rw [hF1]; exact HI.out.own.freeze itemR_ok
      have hm1 : m1 = m := by have := hlf.len.1; have := HM.out; omega
      have hba : Below wr.heap.size wr (wr.alloc (.cells #[] 48)) := (Below.refl _ _).alloc (Nat.le_refl _) _
      have HS : Hid (SelR w F (wr.alloc (.cells #[] 48)) F1 (.slice (some ⟨wr.heap.size, 0, none⟩) 0 0) [] (.slice A1 m1 c1) xs) := Lib.hid ⟨hgr.alloc _, ownR.made wr _ hgr.below.size hgr.lt, (listR_ok itemR_ok).below hlf hba hgr.lt⟩
      have HLL : Hid (SelL xs [] xs) := Lib.hid ⟨.nil, by simp, HND.out, by simp⟩
      have hm60 : m1 ≤ 60 := by omega
      clear hF1 hgr hlf hba hkk HI hm1 hk hB
      go_wp2_with fail
      go_loopw [10, 7] (fun o v wr => ∃ A2 m2 c2 A3 m3 c3 F2 os ls, o = .slice A2 m2 c2 ∧ v = .slice A3 m3 c3 ∧ m3 ≤ 60 ∧ m2 + m3 ≤ 60 ∧ Hid (SelR w F wr F2 (.slice A2 m2 c2) os (.slice A3 m3 c3) ls) ∧ Hid (SelL xs os ls)) (fun _ v _ => match v with | .slice _ n _ => n | _ => 0)
      case atStart => exact ⟨_, _, _, _, _, _, _, _, _, rfl, rfl, hm60, by omega, HS, HLL⟩
      case round =>
        clear HS HLL
        obtain ⟨A2, m2, c2, A3, m3, c3, F2, os, ls, rfl, rfl, hm3, hm23, HS, HLL⟩ := hrel
        have hm3l : m3 = ls.length := HS.out.left.len.1
        have HM3 := Lib.hid hm3l
        have hm2l : m2 = os.length := by obtain ⟨A', c', e⟩ := HS.out.own.form; cases e; rfl
        have HM2 := Lib.hid hm2l
        clear hm3l hm2l
        rcases Nat.eq_zero_or_pos m3 with h0 | h0
        · subst h0
          have hls : ls = [] := List.eq_nil_of_length_eq_zero HM3.out.symm
          subst hls
          have hgo := HS.out.grew.own HS.out.own (Nat.le_refl _)
          have hlo := HS.out.own.freeze itemR_ok
          have HGO := Lib.hid hgo
          have HLO := Lib.hid hlo
          clear hgo hlo
          go_wp2_with fail
          go_ret
          exact ⟨_, _, _, _, os, rfl, HGO.out, HLO.out, HLL.out.so, fun p => by rw [← HLL.out.mem p]; simp⟩
        · obtain ⟨wo, rfl⟩ : ∃ wo : World, wo = wr := ⟨_, rfl⟩
          have hd0 : decide ((m3 : Int) > 0) = true := decide_eq_true (by omega)
          have HF2 := Lib.hid HS.out.grew.lt
          go_wp2_with fail
          go_loopw [11, 38] (fun kv i wr => ∃ kk t : Nat, kk < m3 ∧ t ≤ m3 ∧ kv = .int .i64 kk ∧ i = .int .i64 t ∧ Hid (MinTo ls t kk) ∧ Below wo.heap.size wo wr) (fun _ i _ => m3 - (intOf i).toNat)
          case atStart => exact ⟨0, 0, h0, Nat.zero_le _, rfl, rfl, Lib.hid (fun s y z h => by omega), Below.refl _ _⟩
          case round =>
            obtain ⟨kk, t, hkk, ht, rfl, rfl, HT, hB⟩ := hrel
            obtain ⟨xk, lk, b, off, hxk, rfl, hFb, hfk, e4, e5, e6⟩ := item_at HS.out.left hkk
            have hk0 : (0 : Int) ≤ (kk : Int) := by omega
            have hk1 : (kk : Int) < (m3 : Int) := by omega
            have hbo := HF2.out b hFb
            have r4 : ∀ w', Below wo.heap.size wo w' → w'.cell? ⟨b, off + kk * 3, none⟩ = some (.int .u32 xk) := fun w' h => (h.cell (p := ⟨b, _, none⟩) hbo).trans e4
            have r5 : ∀ w', Below wo.heap.size wo w' → w'.cell? ⟨b, off + kk * 3 + 1, none⟩ = some (.int .i64 lk) := fun w' h => (h.cell (p := ⟨b, _, none⟩) hbo).trans e5
            have r6 : ∀ w', Below wo.heap.size wo w' → w'.cell? ⟨b, off + kk * 3 + 2, none⟩ = some (.int .i64 0) := fun w' h => (h.cell (p := ⟨b, _, none⟩) hbo).trans e6
            have HXK := Lib.hid hxk
            have Hfk := Lib.hid hfk
            clear hxk hfk e4 e5 e6
            by_cases hltt : t < m3
            · obtain ⟨xt, lt_, b', off', hxt, he, hFb', hft, e4, e5, e6⟩ := item_at HS.out.left hltt
              simp only [Option.some.injEq, Addr.mk.injEq] at he
              obtain ⟨rfl, rfl, _⟩ := he
              have ht0 : (0 : Int) ≤ (t : Int) := by omega
              have ht1 : (t : Int) < (m3 : Int) := by omega
              have r1 : ∀ w', Below wo.heap.size wo w' → w'.cell? ⟨b, off + t * 3, none⟩ = some (.int .u32 xt) := fun w' h => (h.cell (p := ⟨b, _, none⟩) hbo).trans e4
              have r2 : ∀ w', Below wo.heap.size wo w' → w'.cell? ⟨b, off + t * 3 + 1, none⟩ = some (.int .i64 lt_) := fun w' h => (h.cell (p := ⟨b, _, none⟩) hbo).trans e5
              have r3 : ∀ w', Below wo.heap.size wo w' → w'.cell? ⟨b, off + t * 3 + 2, none⟩ = some (.int .i64 0) := fun w' h => (h.cell (p := ⟨b, _, none⟩) hbo).trans e6
              obtain ⟨q, hq⟩ : ∃ q, q = decide (cmpP ⟨xt, lt_⟩ ⟨xk, lk⟩ < 0) := ⟨_, rfl⟩
              have HLS := Lib.hid (fun W => ref_less xt lt_ xk lk W)
              rw [← hq] at HLS
              have HQ := Lib.hid hq
              have HXT := Lib.hid hxt
              clear hxt hft e4 e5 e6 hq hFb'
              go_upto_region 14 with fail
              have hWW := hB
              cases q
              · have HN : Hid (MinTo ls (t + 1) kk) := Lib.hid fun s y z hs hy hz => by
                  rcases Nat.lt_or_ge s t with h | h
                  · exact HT.out s y z h hy hz
                  · obtain rfl : s = t := by omega
                    rw [HXT.out] at hy
                    rw [HXK.out] at hz
                    cases hy
                    cases hz
                    exact of_decide_eq_false HQ.out.symm
                refine wp_region_held_drew (S := (fun w' => Below wo.heap.size wo w')) (by kernel_rfl) ?_ (fun hHeld => ?_)
                · (try dsimp only); (first | (with_reducible exact below_step (by assumption) hb1') | (repeat' (first | (with_reducible exact Below.refl _ _) | (with_reducible assumption) | (with_reducible exact Below.size (by assumption)) | (with_reducible refine Below.drew ?_))))
                refine wpAnyH_take (i := 0) (v := ?_) rfl (by kernel_rfl) (by kernel_rfl) (by kernel_rfl) (fun _ _ _ h => h) (Or.inl ⟨by rfl, ?_⟩) (by assumption) ?_
                rotate_left
                · (intro w hSw; (try dsimp only at hSw); go_simp; first | done | with_reducible rfl)
                try simp only [List.getElem_toArray, List.getElem_cons_zero, List.getElem_cons_succ, Act.put, List.setIfInBounds_toArray, List.set_cons_zero, List.set_cons_succ]
                refine wpAnyH_take (i := 1) (v := ?_) rfl (by kernel_rfl) (by kernel_rfl) (by kernel_rfl) (fun _ _ _ h => h) (Or.inl ⟨by rfl, ?_⟩) (by assumption) ?_
                rotate_left
                · (intro w hSw; (try dsimp only at hSw); go_simp; first | done | with_reducible rfl)
                try simp only [List.getElem_toArray, List.getElem_cons_zero, List.getElem_cons_succ, Act.put, List.setIfInBounds_toArray, List.set_cons_zero, List.set_cons_succ]
                refine wpAnyH_take (i := 2) (v := ?_) rfl (by kernel_rfl) (by kernel_rfl) (by kernel_rfl) (fun _ _ _ h => h) (Or.inl ⟨by rfl, ?_⟩) (by assumption) ?_
                rotate_left
                · (intro w hSw; (try dsimp only at hSw); go_simp; first | done | with_reducible rfl)
                try simp only [List.getElem_toArray, List.getElem_cons_zero, List.getElem_cons_succ, Act.put, List.setIfInBounds_toArray, List.set_cons_zero, List.set_cons_succ]
                refine wpAnyH_take (i := 3) (v := ?_) rfl (by kernel_rfl) (by kernel_rfl) (by kernel_rfl) (fun _ _ _ h => h) (Or.inl ⟨by rfl, ?_⟩) (by assumption) ?_
                rotate_left
                · (intro w hSw; (try dsimp only at hSw); go_simp; first | done | with_reducible rfl)
                try simp only [List.getElem_toArray, List.getElem_cons_zero, List.getElem_cons_succ, Act.put, List.setIfInBounds_toArray, List.set_cons_zero, List.set_cons_succ]
                refine wpAnyH_take (i := 4) (v := ?_) rfl (by kernel_rfl) (by kernel_rfl) (by kernel_rfl) (fun _ _ _ h => h) (Or.inl ⟨by rfl, ?_⟩) (by assumption) ?_
                rotate_left
                · (intro w hSw; (try dsimp only at hSw); go_simp; first | done | with_reducible rfl)
                try simp only [List.getElem_toArray, List.getElem_cons_zero, List.getElem_cons_succ, Act.put, List.setIfInBounds_toArray, List.set_cons_zero, List.set_cons_succ]
                refine wpAnyH_take (i := 5) (v := ?_) rfl (by kernel_rfl) (by kernel_rfl) (by kernel_rfl) (fun _ _ _ h => h) (Or.inl ⟨by rfl, ?_⟩) (by assumption) ?_
                rotate_left
                · (intro w hSw; (try dsimp only at hSw); go_simp; first | done | with_reducible rfl)
                try simp only [List.getElem_toArray, List.getElem_cons_zero, List.getElem_cons_succ, Act.put, List.setIfInBounds_toArray, List.set_cons_zero, List.set_cons_succ]
                refine wpAnyH_take (i := 6) (v := ?_) rfl (by kernel_rfl) (by kernel_rfl) (by kernel_rfl) (fun _ _ _ h => h) (Or.inl ⟨by rfl, ?_⟩) (by assumption) ?_
                rotate_left
                · (intro w hSw; (try dsimp only at hSw); go_simp; first | done | with_reducible rfl)
                try simp only [List.getElem_toArray, List.getElem_cons_zero, List.getElem_cons_succ, Act.put, List.setIfInBounds_toArray, List.set_cons_zero, List.set_cons_succ]
                refine wpAnyH_take (i := 7) (v := ?_) rfl (by kernel_rfl) (by kernel_rfl) (by kernel_rfl) (fun _ _ _ h => h) (Or.inl ⟨by rfl, ?_⟩) (by assumption) ?_
                rotate_left
                · (intro w hSw; (try dsimp only at hSw); go_simp; first | done | with_reducible rfl)
                try simp only [List.getElem_toArray, List.getElem_cons_zero, List.getElem_cons_succ, Act.put, List.setIfInBounds_toArray, List.set_cons_zero, List.set_cons_succ]
                refine wpAnyH_ready (rs := [8]) (by kernel_rfl) (by simp) ?_
                refine AllReadyH.cons rfl (fun K hK => ?_) AllReadyH.nil
                go_simp
                (go_at_call 38; (with_reducible refine (HLS.out _).mono ?_); rintro e u1 ⟨rfl, hb1'⟩; have hq : Below wo.heap.size wo u1 := below_step (by assumption) hb1')
                go_wp2_with fail
                refine hK.out _ _ ?_ (fun hHeldN => ?_)
                · (try dsimp only); (first | (with_reducible exact below_step (by assumption) hb1') | (repeat' (first | (with_reducible exact Below.refl _ _) | (with_reducible assumption) | (with_reducible exact Below.size (by assumption)) | (with_reducible refine Below.drew ?_))))
                clear hK K hHeld
                try clear hb1' hq
                have hHeld := hHeldN
                clear hHeldN
                try simp only [List.getElem_toArray, List.getElem_cons_zero, List.getElem_cons_succ, Act.put, List.setIfInBounds_toArray, List.set_cons_zero, List.set_cons_succ]
                refine wpAnyH_done (by kernel_rfl) ?_ _
                go_wp2_with fail
                go_roundw
                case rel => exact ⟨kk, t + 1, by omega, by omega, rfl, by go_num, HN, by assumption⟩
                case measure => simp [intOf]; omega
              · have HN : Hid (MinTo ls (t + 1) t) := Lib.hid fun s y z hs hy hz => by
                  rw [HXT.out] at hz
                  cases hz
                  have h1 : cmpP ⟨xt, lt_⟩ ⟨xk, lk⟩ < 0 := of_decide_eq_true HQ.out.symm
                  rcases Nat.lt_or_ge s t with h | h
                  · exact fun h2 => HT.out s y _ h hy HXK.out (cmpP_tr h2 h1)
                  · obtain rfl : s = t := by omega
                    rw [HXT.out] at hy
                    cases hy
                    rw [cmpP_self]
                    omega
                refine wp_region_held_drew (S := (fun w' => Below wo.heap.size wo w')) (by kernel_rfl) ?_ (fun hHeld => ?_)
                · (try dsimp only); (first | (with_reducible exact below_step (by assumption) hb1') | (repeat' (first | (with_reducible exact Below.refl _ _) | (with_reducible assumption) | (with_reducible exact Below.size (by assumption)) | (with_reducible refine Below.drew ?_))))
                refine wpAnyH_take (i := 0) (v := ?_) rfl (by kernel_rfl) (by kernel_rfl) (by kernel_rfl) (fun _ _ _ h => h) (Or.inl ⟨by rfl, ?_⟩) (by assumption) ?_
                rotate_left
                · (intro w hSw; (try dsimp only at hSw); go_simp; first | done | with_reducible rfl)
                try simp only [List.getElem_toArray, List.getElem_cons_zero, List.getElem_cons_succ, Act.put, List.setIfInBounds_toArray, List.set_cons_zero, List.set_cons_succ]
                refine wpAnyH_take (i := 1) (v := ?_) rfl (by kernel_rfl) (by kernel_rfl) (by kernel_rfl) (fun _ _ _ h => h) (Or.inl ⟨by rfl, ?_⟩) (by assumption) ?_
                rotate_left
                · (intro w hSw; (try dsimp only at hSw); go_simp; first | done | with_reducible rfl)
                try simp only [List.getElem_toArray, List.getElem_cons_zero, List.getElem_cons_succ, Act.put, List.setIfInBounds_toArray, List.set_cons_zero, List.set_cons_succ]
                refine wpAnyH_take (i := 2) (v := ?_) rfl (by kernel_rfl) (by kernel_rfl) (by kernel_rfl) (fun _ _ _ h => h) (Or.inl ⟨by rfl, ?_⟩) (by assumption) ?_
                rotate_left
                · (intro w hSw; (try dsimp only at hSw); go_simp; first | done | with_reducible rfl)
                try simp only [List.getElem_toArray, List.getElem_cons_zero, List.getElem_cons_succ, Act.put, List.setIfInBounds_toArray, List.set_cons_zero, List.set_cons_succ]
                refine wpAnyH_take (i := 3) (v := ?_) rfl (by kernel_rfl) (by kernel_rfl) (by kernel_rfl) (fun _ _ _ h => h) (Or.inl ⟨by rfl, ?_⟩) (by assumption) ?_
                rotate_left
                · (intro w hSw; (try dsimp only at hSw); go_simp; first | done | with_reducible rfl)
                try simp only [List.getElem_toArray, List.getElem_cons_zero, List.getElem_cons_succ, Act.put, List.setIfInBounds_toArray, List.set_cons_zero, List.set_cons_succ]
                refine wpAnyH_take (i := 4) (v := ?_) rfl (by kernel_rfl) (by kernel_rfl) (by kernel_rfl) (fun _ _ _ h => h) (Or.inl ⟨by rfl, ?_⟩) (by assumption) ?_
                rotate_left
                · (intro w hSw; (try dsimp only at hSw); go_simp; first | done | with_reducible rfl)
                try simp only [List.getElem_toArray, List.getElem_cons_zero, List.getElem_cons_succ, Act.put, List.setIfInBounds_toArray, List.set_cons_zero, List.set_cons_succ]
                refine wpAnyH_take (i := 5) (v := ?_) rfl (by kernel_rfl) (by kernel_rfl) (by kernel_rfl) (fun _ _ _ h => h) (Or.inl ⟨by rfl, ?_⟩) (by assumption) ?_
                rotate_left
                · (intro w hSw; (try dsimp only at hSw); go_simp; first | done | with_reducible rfl)
                try simp only [List.getElem_toArray, List.getElem_cons_zero, List.getElem_cons_succ, Act.put, List.setIfInBounds_toArray, List.set_cons_zero, List.set_cons_succ]
                refine wpAnyH_take (i := 6) (v := ?_) rfl (by kernel_rfl) (by kernel_rfl) (by kernel_rfl) (fun _ _ _ h => h) (Or.inl ⟨by rfl, ?_⟩) (by assumption) ?_
                rotate_left
                · (intro w hSw; (try dsimp only at hSw); go_simp; first | done | with_reducible rfl)
                try simp only [List.getElem_toArray, List.getElem_cons_zero, List.getElem_cons_succ, Act.put, List.setIfInBounds_toArray, List.set_cons_zero, List.set_cons_succ]
                refine wpAnyH_take (i := 7) (v := ?_) rfl (by kernel_rfl) (by kernel_rfl) (by kernel_rfl) (fun _ _ _ h => h) (Or.inl ⟨by rfl, ?_⟩) (by assumption) ?_
                rotate_left
                · (intro w hSw; (try dsimp only at hSw); go_simp; first | done | with_reducible rfl)
                try simp only [List.getElem_toArray, List.getElem_cons_zero, List.getElem_cons_succ, Act.put, List.setIfInBounds_toArray, List.set_cons_zero, List.set_cons_succ]
                refine wpAnyH_ready (rs := [8]) (by kernel_rfl) (by simp) ?_
                refine AllReadyH.cons rfl (fun K hK => ?_) AllReadyH.nil
                go_simp
                (go_at_call 38; (with_reducible refine (HLS.out _).mono ?_); rintro e u1 ⟨rfl, hb1'⟩; have hq : Below wo.heap.size wo u1 := below_step (by assumption) hb1')
                go_wp2_with fail
                refine hK.out _ _ ?_ (fun hHeldN => ?_)
                · (try dsimp only); (first | (with_reducible exact below_step (by assumption) hb1') | (repeat' (first | (with_reducible exact Below.refl _ _) | (with_reducible assumption) | (with_reducible exact Below.size (by assumption)) | (with_reducible refine Below.drew ?_))))
                clear hK K hHeld
                try clear hb1' hq
                have hHeld := hHeldN
                clear hHeldN
                try simp only [List.getElem_toArray, List.getElem_cons_zero, List.getElem_cons_succ, Act.put, List.setIfInBounds_toArray, List.set_cons_zero, List.set_cons_succ]
                refine wpAnyH_done (by kernel_rfl) ?_ _
                go_wp2_with fail
                go_roundw
                case rel => exact ⟨t, t + 1, by omega, by omega, rfl, by go_num, HN, by assumption⟩
                case measure => simp [intOf]; omega
            · have HLN := Lib.hid (HLL.out.step HXK.out fun s y hs hy => HT.out s y _ (by have := HM3.out; omega) hy HXK.out)
              have HS1 := Lib.hid (HS.out.step hB)
              have z1 := r4 wr hB
              have z2 := r5 wr hB
              have z3 := r6 wr hB
              have hb4 : Below wr.heap.size wr (wr.alloc (.cells (itemC ⟨xk, lk⟩).toArray 48)) := (Below.refl _ _).alloc (Nat.le_refl _) _
              have HS4 := Lib.hid (HS1.out.step hb4)
              have h63 : Hid (os.length + 1 ≤ 9223372036854775807) := by show _ ≤ _; have := HM2.out; omega
              have h64 : Hid ((os.length + 1) * 24 ≤ 140737488355328) := by show _ ≤ _; have := HM2.out; omega
              have hnews := Lib.hid (cells_row_new wr 48 (itemC ⟨xk, lk⟩))
              have hone : Hid (Groups itemR (wr.alloc (.cells (itemC ⟨xk, lk⟩).toArray 48)) F2 (itemC ⟨xk, lk⟩) [⟨xk, lk⟩]) := Lib.hid (item_one _ Hfk.out)
              have HF4 := Lib.hid HS4.out.grew.lt
              have hbs := Lib.hid HS4.out.grew.below.size
              clear hb4 r4 r5 r6 hB HT
              go_wp2_with (at_builtin; refine wpList_pushB _ rfl (.tmp 52) (.tmp 57) 43 rfl itemR_ok w.heap.size 48 ii _ 24 Try.underlying43 hii hi0 hi1 hi2 rfl (by decide) F2 _ os rfl HS4.out.own ⟨wr.heap.size, 0, none⟩ 1 1 (itemC ⟨xk, lk⟩) [⟨xk, lk⟩] rfl rfl hnews.out hone.out HF4.out h63.out h64.out hbs.out ?_)
              intro v5 w5 hv5 hg5 hn5
              obtain ⟨A5, n5, c5, rfl, HN5⟩ := hv5.form3
              have HS5 := Lib.hid (HS4.out.push hv5 hg5)
              clear hv5 hg5 hn5 z1 z2 z3
              go_upto_region 18 with fail
              have hlen3 := HS5.out.left.len
              obtain ⟨hr1, hr2⟩ : (∀ w', _) ∧ (∀ w', _) := ⟨fun w' => (item_runs b off m3 kk c3 hkk hlen3.2.1 (by have := hlen3.2.2; unfold maxLen at this; omega) w').1, fun w' => (item_runs b off m3 kk c3 hkk hlen3.2.1 (by have := hlen3.2.2; unfold maxLen at this; omega) w').2⟩
              have hrest := item_rest HS5.out.left hkk
              obtain ⟨A', hA'⟩ : ∃ A' : Option Addr, A' = (if c3 = kk + 1 then some ⟨b, off, none⟩ else some ⟨b, off + (kk + 1) * 3, none⟩) := ⟨_, rfl⟩
              rw [← hA'] at hrest
              simp only [← hA'] at hr2
              have HF5 := Lib.hid HS5.out.grew.lt
              have hbA : Below w5.heap.size w5 (w5.drew.alloc (.cells #[] 48)) := ((Below.refl _ _).drew).alloc (Nat.le_refl _) _
              have HO0 : Hid (ownR 48 3 itemR (w5.drew.alloc (.cells #[] 48)) F2 w5.heap.size (.slice (some ⟨w5.heap.size, 0, none⟩) 0 0) []) := Lib.hid (ownR.made w5.drew _ (Nat.le_refl _) HF5.out)
              have HLk := Lib.hid ((listR_ok itemR_ok).below (item_first HS5.out.left hkk) hbA HF5.out)
              have HRS := Lib.hid hrest
              have HFA := Lib.hid (HF5.out.below hbA)
              have h63a : Hid (([] : List Pfx).length + kk ≤ 9223372036854775807) := by show _ ≤ _; simp; omega
              have h64a : Hid ((([] : List Pfx).length + kk) * 24 ≤ 140737488355328) := by show _ ≤ _; simp; omega
              have h63b : Hid ((ls.take kk).length + (m3 - (kk + 1)) ≤ 9223372036854775807) := by show _ ≤ _; rw [List.length_take]; omega
              have h64b : Hid (((ls.take kk).length + (m3 - (kk + 1))) * 24 ≤ 140737488355328) := by show _ ≤ _; rw [List.length_take]; omega
              have hbsA : Hid (w5.heap.size ≤ (w5.drew.alloc (.cells #[] 48)).heap.size) := Lib.hid hbA.size
              have j1 : IntKind.i64.wrap ((kk : Int) + 1) = (kk : Int) + 1 := by rw [IntKind.wrap_i64]; omega
              have hml : Hid ((ls.take kk ++ ls.drop (kk + 1)).length = m3 - 1) := by show _ = _; rw [List.length_append, List.length_take, List.length_drop]; have := HM3.out; omega
              have hwd : Below w5.heap.size w5 w5.drew := (Below.refl _ _).drew
              clear hlen3 hrest hA'
              refine wp_region_held_drew (S := (fun w' => Below w5.heap.size w5 w')) (by kernel_rfl) ?_ (fun hHeld => ?_)
              · (try dsimp only); (first | (with_reducible assumption) | exact hbA | exact hwd)
              refine wpAnyH_take (i := 1) (v := ?_) rfl (by kernel_rfl) (by kernel_rfl) (by kernel_rfl) (fun _ _ _ h => h) (Or.inl ⟨by rfl, ?_⟩) (by assumption) ?_
              rotate_left
              · (intro w hSw; (try dsimp only at hSw); go_simp; first | done | with_reducible rfl)
              try simp only [List.getElem_toArray, List.getElem_cons_zero, List.getElem_cons_succ, Act.put, List.setIfInBounds_toArray, List.set_cons_zero, List.set_cons_succ]
              refine wpAnyH_take (i := 2) (v := ?_) rfl (by kernel_rfl) (by kernel_rfl) (by kernel_rfl) (fun _ _ _ h => h) (Or.inl ⟨by rfl, ?_⟩) (by assumption) ?_
              rotate_left
              · (intro w hSw; (try dsimp only at hSw); go_simp; first | done | with_reducible rfl)
              try simp only [List.getElem_toArray, List.getElem_cons_zero, List.getElem_cons_succ, Act.put, List.setIfInBounds_toArray, List.set_cons_zero, List.set_cons_succ]
              refine wpAnyH_take (i := 3) (v := ?_) rfl (by kernel_rfl) (by kernel_rfl) (by kernel_rfl) (fun _ _ _ h => h) (Or.inl ⟨by rfl, ?_⟩) (by assumption) ?_
              rotate_left
              · (intro w hSw; (try dsimp only at hSw); go_simp; first | done | with_reducible rfl)
              try simp only [List.getElem_toArray, List.getElem_cons_zero, List.getElem_cons_succ, Act.put, List.setIfInBounds_toArray, List.set_cons_zero, List.set_cons_succ]
              refine wpAnyH_take (i := 5) (v := ?_) rfl (by kernel_rfl) (by kernel_rfl) (by kernel_rfl) (fun _ _ _ h => h) (Or.inl ⟨by rfl, ?_⟩) (by assumption) ?_
              rotate_left
              · (intro w hSw; (try dsimp only at hSw); go_simp; first | done | with_reducible rfl)
              try simp only [List.getElem_toArray, List.getElem_cons_zero, List.getElem_cons_succ, Act.put, List.setIfInBounds_toArray, List.set_cons_zero, List.set_cons_succ]
              refine wpAnyH_take (i := 6) (v := ?_) rfl (by kernel_rfl) (by kernel_rfl) (by kernel_rfl) (fun _ _ _ h => h) (Or.inl ⟨by rfl, ?_⟩) (by assumption) ?_
              rotate_left
              · (intro w hSw; (try dsimp only at hSw); go_simp; first | done | with_reducible rfl)
              try simp only [List.getElem_toArray, List.getElem_cons_zero, List.getElem_cons_succ, Act.put, List.setIfInBounds_toArray, List.set_cons_zero, List.set_cons_succ]
              refine wpAnyH_take (i := 7) (v := ?_) rfl (by kernel_rfl) (by kernel_rfl) (by kernel_rfl) (fun _ _ _ h => h) (Or.inl ⟨by rfl, ?_⟩) (by assumption) ?_
              rotate_left
              · (intro w hSw; (try dsimp only at hSw); go_simp; first | done | with_reducible rfl)
              try simp only [List.getElem_toArray, List.getElem_cons_zero, List.getElem_cons_succ, Act.put, List.setIfInBounds_toArray, List.set_cons_zero, List.set_cons_succ]
              refine wpAnyH_take (i := 8) (v := ?_) rfl (by kernel_rfl) (by kernel_rfl) (by kernel_rfl) (fun _ _ _ h => h) (Or.inl ⟨by rfl, ?_⟩) (by assumption) ?_
              rotate_left
              · (intro w hSw; (try dsimp only at hSw); go_simp; first | done | with_reducible rfl)
              try simp only [List.getElem_toArray, List.getElem_cons_zero, List.getElem_cons_succ, Act.put, List.setIfInBounds_toArray, List.set_cons_zero, List.set_cons_succ]
              refine wpAnyH_ready (rs := [0]) (by kernel_rfl) (by simp) ?_
              refine AllReadyH.cons rfl (fun K hK => ?_) AllReadyH.nil
              go_simp
              refine hK.out _ _ ?_ (fun hHeldN => ?_)
              · (try dsimp only); (first | (with_reducible assumption) | exact hbA | exact hwd)
              clear hK K hHeld
              try clear hb1' hq
              have hHeld := hHeldN
              clear hHeldN
              try simp only [List.getElem_toArray, List.getElem_cons_zero, List.getElem_cons_succ, Act.put, List.setIfInBounds_toArray, List.set_cons_zero, List.set_cons_succ]
              refine wpAnyH_ready (rs := [4]) (by kernel_rfl) (by simp) ?_
              refine AllReadyH.cons rfl (fun K hK => ?_) AllReadyH.nil
              (refine step_pushA _ rfl (.tmp 59) (.tmp 62) 43 rfl itemR_ok w5.heap.size 48 ii _ 24 Try.underlying43 hii hi0 hi1 hi2 rfl (by decide) F2 _ [] rfl HO0.out (some ⟨b, off, none⟩) kk c3 _ rfl HLk.out HFA.out h63a.out h64a.out hbsA.out ?_; intro v6 w6 hv6 hg6 hn6; have hv6' : ownR 48 3 itemR w6 F2 w5.heap.size v6 (ls.take kk) := hv6; obtain ⟨A6, c6, rfl⟩ := hv6'.form; have hq6 : Below w5.heap.size w5 w6 := below_grownO hbA hg6 (fun g e => (HO0.out.lt g e).1); have HV6 := Lib.hid hv6'; have HR6 := Lib.hid ((listR_ok itemR_ok).below HRS.out hq6 HF5.out); have HF6 := Lib.hid (HF5.out.below hq6); have hbs6 := Lib.hid hq6.size; clear hv6 hv6' hg6 hn6)
              refine hK.out _ _ ?_ (fun hHeldN => ?_)
              · (try dsimp only); (first | (with_reducible assumption) | exact hbA | exact hwd)
              clear hK K hHeld
              try clear hb1' hq
              have hHeld := hHeldN
              clear hHeldN
              try simp only [List.getElem_toArray, List.getElem_cons_zero, List.getElem_cons_succ, Act.put, List.setIfInBounds_toArray, List.set_cons_zero, List.set_cons_succ]
              refine wpAnyH_ready (rs := [9]) (by kernel_rfl) (by simp) ?_
              refine AllReadyH.cons rfl (fun K hK => ?_) AllReadyH.nil
              (refine step_pushA _ rfl (.tmp 63) (.tmp 67) 43 rfl itemR_ok w5.heap.size 48 ii _ 24 Try.underlying43 hii hi0 hi1 hi2 rfl (by decide) F2 _ _ rfl HV6.out A' (m3 - (kk + 1)) (c3 - (kk + 1)) _ rfl HR6.out HF6.out h63b.out h64b.out hbs6.out ?_; intro v7 w7 hv7 hg7 hn7; obtain ⟨A7, n7, c7, rfl, HN7⟩ := hv7.form3; have hq7 : Below w5.heap.size w5 w7 := below_grownO hq6 hg7 (fun g e => (HV6.out.lt g e).1); have HS7 := Lib.hid (HS5.out.next hq7 hv7); clear hv7 hg7 hn7)
              refine hK.out _ _ ?_ (fun hHeldN => ?_)
              · (try dsimp only); (first | (with_reducible assumption) | exact hbA | exact hwd)
              clear hK K hHeld
              try clear hb1' hq
              have hHeld := hHeldN
              clear hHeldN
              try simp only [List.getElem_toArray, List.getElem_cons_zero, List.getElem_cons_succ, Act.put, List.setIfInBounds_toArray, List.set_cons_zero, List.set_cons_succ]
              refine wpAnyH_take (i := 10) (v := ?_) rfl (by kernel_rfl) (by kernel_rfl) (by kernel_rfl) (fun _ _ _ h => h) (Or.inl ⟨by rfl, ?_⟩) (by assumption) ?_
              rotate_left
              · (intro w hSw; (try dsimp only at hSw); go_simp; first | done | with_reducible rfl)
              try simp only [List.getElem_toArray, List.getElem_cons_zero, List.getElem_cons_succ, Act.put, List.setIfInBounds_toArray, List.set_cons_zero, List.set_cons_succ]
              refine wpAnyH_done (by kernel_rfl) ?_ _
              go_wp2_with fail
              go_roundw
              case rel => exact ⟨_, _, _, _, _, _, _, _, _, rfl, rfl, by have h1 := HN7.out; rw [hml.out] at h1; omega, by have h1 := HN7.out; have h2 := HN5.out; rw [hml.out] at h1; rw [List.length_append, ← HM2.out] at h2; simp at h2; omega, HS7, HLN⟩
              case measure => have h1 := HN7.out; rw [hml.out] at h1; simp only []; omega
end Go.Proofs.Ythiodgnklfbmjaa
