/- The law PsetMerges. -/
import Derived.Test.YthiodgnklfbmjaaPsT
namespace Go.Proofs.Ythiodgnklfbmjaa
open Go.RowKit
set_option linter.unusedVariables false
set_option linter.unusedSimpArgs false

def MPost2 (w : World) (F : Nat → Prop) (L : List Pfx) (e : Ending) (w' : World) : Prop := ∃ A' n' c' F', e = .returned (.tuple #[.agg #[.slice A' n' c'], .int .i64 0]) ∧ Grew w F w' F' ∧ listR 2 pfxR w' F' [.slice A' n' c'] L ∧ n' = L.length
theorem set_OrS (w : World) (F : Nat → Prop) (A : Option Addr) (n c : Nat) (xs : List Pfx) (B : Option Addr) (m d : Nat) (ys : List Pfx) (hl : listR 2 pfxR w F [.slice A n c] xs) (hu : listR 2 pfxR w F [.slice B m d] ys) (hF : InF F w) (hn : n + m ≤ 4096) :
    Calls Try.prog 27 #[.agg #[.slice A n c], .agg #[.slice B m d]] w (MPost2 w F (mergeL kOr xs ys)) := by
  refine (set_Or w F A n c xs B m d ys hl hu hF (by omega) (by omega)).mono ?_
  rintro e w' ⟨A', n', c', F', rfl, hg, hl'⟩
  have h := merge_small (kp := kOr) (xs := xs) (ys := ys) (by have := hl.len.1; have := hu.len.1; omega)
  rw [h.2] at hl'
  exact ⟨A', n', c', F', by rw [h.1], hg, hl', hl'.len.1⟩
def MPost3 (w : World) (F : Nat → Prop) (L : List Pfx) (e : Ending) (w' : World) : Prop := ∃ A' n' c' F', e = .returned (.agg #[.slice A' n' c']) ∧ Grew w F w' F' ∧ listR 2 pfxR w' F' [.slice A' n' c'] L ∧ n' = L.length
theorem set_AndS (w : World) (F : Nat → Prop) (A : Option Addr) (n c : Nat) (xs : List Pfx) (B : Option Addr) (m d : Nat) (ys : List Pfx) (hl : listR 2 pfxR w F [.slice A n c] xs) (hu : listR 2 pfxR w F [.slice B m d] ys) (hF : InF F w) (hn : n + m ≤ 4096) :
    Calls Try.prog 28 #[.agg #[.slice A n c], .agg #[.slice B m d]] w (MPost3 w F (mergeL kAnd xs ys)) := by
  refine (set_And w F A n c xs B m d ys hl hu hF (by omega) (by omega)).mono ?_
  rintro e w' ⟨A', n', c', F', rfl, hg, hl'⟩
  have h := merge_small (kp := kAnd) (xs := xs) (ys := ys) (by have := hl.len.1; have := hu.len.1; omega)
  rw [h.2] at hl'
  exact ⟨A', n', c', F', rfl, hg, hl', hl'.len.1⟩
theorem set_LessS (w : World) (F : Nat → Prop) (A : Option Addr) (n c : Nat) (xs : List Pfx) (B : Option Addr) (m d : Nat) (ys : List Pfx) (hl : listR 2 pfxR w F [.slice A n c] xs) (hu : listR 2 pfxR w F [.slice B m d] ys) (hF : InF F w) (hn : n + m ≤ 4096) :
    Calls Try.prog 29 #[.agg #[.slice A n c], .agg #[.slice B m d]] w (MPost3 w F (mergeL kLess xs ys)) := by
  refine (set_Less w F A n c xs B m d ys hl hu hF (by omega) (by omega)).mono ?_
  rintro e w' ⟨A', n', c', F', rfl, hg, hl'⟩
  have h := merge_small (kp := kLess) (xs := xs) (ys := ys) (by have := hl.len.1; have := hu.len.1; omega)
  rw [h.2] at hl'
  exact ⟨A', n', c', F', rfl, hg, hl', hl'.len.1⟩
theorem filter_len (a : List Pfx) : (ofL (a.filter Pfx.good)).length ≤ a.length := by
  by_cases h : ofE (a.filter Pfx.good) = 0
  · have : ofL (a.filter Pfx.good) = compactN (sortL (a.filter Pfx.good)) (a.filter Pfx.good).length := by unfold ofL; rw [if_pos h]
    rw [this]
    exact Nat.le_trans (compactN_le _ _) (List.length_filter_le _ _)
  · rw [ofL_bad h]; simp

set_option maxRecDepth 100000 in
set_option maxHeartbeats 8000000 in
theorem law_PsetMerges (w : World) (F : Nat → Prop) (A : Option Addr) (n c : Nat) (xa : List Pfx) (B : Option Addr) (m d : Nat) (xb : List Pfx) (hl : listR 2 pfxR w F [.slice A n c] xa) (hu : listR 2 pfxR w F [.slice B m d] xb) (hF : InF F w) :
    Calls Try.prog 8 #[.slice A n c, .slice B m d] w fun e w' => e = .returned (.bool true) ∧ Below w.heap.size w w' := by
  have HL := Lib.hid hl
  have HU := Lib.hid hu
  clear hl hu
  go_enter Try.func8, Try.ntmps8
  go_wp2_with fail
  refine (law_head w).mono ?_
  rintro e w1 ⟨rfl, hB1⟩
  have HB1 := Lib.hid hB1
  clear hB1
  by_cases h1 : 60 < n
  · have d1 : decide ((n : Int) > 60) = true := decide_eq_true (by omega)
    go_wp2_with fail
    go_ret
    exact ⟨rfl, HB1.out⟩
  by_cases h2 : 60 < m
  · have d1 : decide ((n : Int) > 60) = false := decide_eq_false (by omega)
    have d2 : decide ((m : Int) > 60) = true := decide_eq_true (by omega)
    go_wp2_with fail
    go_ret
    exact ⟨rfl, HB1.out⟩
  have d1 : decide ((n : Int) > 60) = false := decide_eq_false (by omega)
  have d2 : decide ((m : Int) > 60) = false := decide_eq_false (by omega)
  go_wp2_with fail
  refine (law_make2 w1 F A n c xa B m d xb ((listR_ok pfxR_ok).below HL.out HB1.out hF) ((listR_ok pfxR_ok).below HU.out HB1.out hF) (hF.below HB1.out) (by omega) (by omega)).mono ?_
  rintro e w2 ⟨As, ns, cs, At, nt, ct, F2, rfl, hg2, hx2, hy2⟩
  have HS : Hid (LSt w F _ F2 _) := Lib.hid (LSt.new2 (fs := []) ⟨Grew.trans ⟨HB1.out, fun _ h => h, fun _ h => .inl h, hF.below HB1.out⟩ hg2, by simp⟩ hx2 hy2)
  obtain ⟨s, hs⟩ : ∃ s, s = ofL (xa.filter Pfx.good) := ⟨_, rfl⟩
  obtain ⟨t, ht⟩ : ∃ t, t = ofL (xb.filter Pfx.good) := ⟨_, rfl⟩
  rw [← hs, ← ht] at HS
  rw [← hs] at hx2
  rw [← ht] at hy2
  have hns := hx2.len.1
  have hnt := hy2.len.1
  have hns6 : ns ≤ 60 := by have h3 := filter_len xa; have h4 := HL.out.len.1; rw [← hs] at h3; omega
  have hnt6 : nt ≤ 60 := by have h3 := filter_len xb; have h4 := HU.out.len.1; rw [← ht] at h3; omega
  have Hns := Lib.hid hns
  have Hnt := Lib.hid hnt
  have hss : sortedP s := by rw [hs]; exact (ofL_sorted _).1
  have hst : sortedP t := by rw [ht]; exact (ofL_sorted _).1
  have HM := Lib.hid (merged hss hst)
  have HN := Lib.hid (merge_lens _ s t (Nat.le_refl _))
  have HSS := Lib.hid (And.intro hss hst)
  clear hs ht hg2 hx2 hy2 hns hnt d1 d2 h1 h2 hss hst HL HU HB1
  obtain ⟨O, hO⟩ : ∃ O, O = mergeL kOr s t := ⟨_, rfl⟩
  obtain ⟨N, hN⟩ : ∃ N, N = mergeL kAnd s t := ⟨_, rfl⟩
  obtain ⟨D, hD⟩ : ∃ D, D = mergeL kLess s t := ⟨_, rfl⟩
  have HO := Lib.hid hO
  have HNN := Lib.hid hN
  have HD := Lib.hid hD
  clear hO hN hD
  go_upto_region 6 with fail
  refine wp_gen (fun W => LSt w F W _ _) HS.out ?_
  intro W hW
  have hall := hW.fact
  simp only [List.forall_mem_cons] at hall
  obtain ⟨⟨kt, lt⟩, ⟨ks, ls⟩, _⟩ := hall
  have qs := ks.cell 0
  have qt := kt.cell 0
  have HS0 := Lib.hid hW
  have HF0 := Lib.hid hW.grew.lt
  have Ls := Lib.hid ls
  have Lt := Lib.hid lt
  clear hW HS ks ls kt lt
  go_wp2_with fail
  refine (set_OrS W _ As ns cs s At nt ct t Ls.out Lt.out HF0.out (by omega)).mono ?_
  rintro e w3 ⟨Ao, no, co, F3, rfl, hg, hl, hno⟩
  rw [← HO.out] at hl hno
  have Hno := Lib.hid hno
  clear hno
  have HS := Lib.hid ((HS0.out.go hg).new hl)
  clear hg hl HS0 HF0 qs Ls qt Lt
  go_upto_region 7 with fail
  refine wp_gen (fun W => LSt w F W _ _) HS.out ?_
  intro W hW
  have hall := hW.fact
  simp only [List.forall_mem_cons] at hall
  obtain ⟨⟨ko, lo⟩, ⟨kt, lt⟩, ⟨ks, ls⟩, _⟩ := hall
  have qs := ks.cell 0
  have qt := kt.cell 0
  have qo := ko.cell 0
  have HS0 := Lib.hid hW
  have HF0 := Lib.hid hW.grew.lt
  have Ls := Lib.hid ls
  have Lt := Lib.hid lt
  have Lo := Lib.hid lo
  clear hW HS ks ls kt lt ko lo
  go_wp2_with fail
  refine (set_AndS W _ As ns cs s At nt ct t Ls.out Lt.out HF0.out (by omega)).mono ?_
  rintro e w4 ⟨Aa, na, ca, F4, rfl, hg, hl, hna⟩
  rw [← HNN.out] at hl hna
  have Hna := Lib.hid hna
  clear hna
  have HS := Lib.hid ((HS0.out.go hg).new hl)
  clear hg hl HS0 HF0 qs Ls qt Lt qo Lo
  go_upto_region 8 with fail
  refine wp_gen (fun W => LSt w F W _ _) HS.out ?_
  intro W hW
  have hall := hW.fact
  simp only [List.forall_mem_cons] at hall
  obtain ⟨⟨ka, la⟩, ⟨ko, lo⟩, ⟨kt, lt⟩, ⟨ks, ls⟩, _⟩ := hall
  have qs := ks.cell 0
  have qt := kt.cell 0
  have qo := ko.cell 0
  have qa := ka.cell 0
  have HS0 := Lib.hid hW
  have HF0 := Lib.hid hW.grew.lt
  have Ls := Lib.hid ls
  have Lt := Lib.hid lt
  have Lo := Lib.hid lo
  have La := Lib.hid la
  clear hW HS ks ls kt lt ko lo ka la
  go_wp2_with fail
  refine (set_LessS W _ As ns cs s At nt ct t Ls.out Lt.out HF0.out (by omega)).mono ?_
  rintro e w5 ⟨Al, nl, cl, F5, rfl, hg, hl, hnl⟩
  rw [← HD.out] at hl hnl
  have Hnl := Lib.hid hnl
  clear hnl
  have HS := Lib.hid ((HS0.out.go hg).new hl)
  clear hg hl HS0 HF0 qs Ls qt Lt qo Lo qa La
  go_upto_region 9 with fail
  refine wp_gen (fun W => LSt w F W _ _) HS.out ?_
  intro W hW
  have hall := hW.fact
  simp only [List.forall_mem_cons] at hall
  obtain ⟨⟨kl, ll⟩, ⟨ka, la⟩, ⟨ko, lo⟩, ⟨kt, lt⟩, ⟨ks, ls⟩, _⟩ := hall
  have xs : ∀ w', Below W.heap.size W w' → w'.cell? ⟨_, 0, none⟩ = some (.slice As ns cs) := fun w' h => (ks.below h ks.lt).cell 0
  have Ls := Lib.hid ls
  have Ks := Lib.hid ks
  have xt : ∀ w', Below W.heap.size W w' → w'.cell? ⟨_, 0, none⟩ = some (.slice At nt ct) := fun w' h => (kt.below h kt.lt).cell 0
  have Lt := Lib.hid lt
  have Kt := Lib.hid kt
  have xo : ∀ w', Below W.heap.size W w' → w'.cell? ⟨_, 0, none⟩ = some (.slice Ao no co) := fun w' h => (ko.below h ko.lt).cell 0
  have Lo := Lib.hid lo
  have Ko := Lib.hid ko
  have xa : ∀ w', Below W.heap.size W w' → w'.cell? ⟨_, 0, none⟩ = some (.slice Aa na ca) := fun w' h => (ka.below h ka.lt).cell 0
  have La := Lib.hid la
  have Ka := Lib.hid ka
  have xl : ∀ w', Below W.heap.size W w' → w'.cell? ⟨_, 0, none⟩ = some (.slice Al nl cl) := fun w' h => (kl.below h kl.lt).cell 0
  have Ll := Lib.hid ll
  have Kl := Lib.hid kl
  have HF := Lib.hid hW.grew.lt
  have HG := Lib.hid hW.grew
  have HS9 := Lib.hid hW
  have e1 : no + na = ns + nt := by have := HN.out.1; rw [← HO.out, ← HNN.out] at this; have := Hno.out; have := Hna.out; have := Hns.out; have := Hnt.out; omega
  have e2 : nl + na = ns := by have := HN.out.2; rw [← HD.out, ← HNN.out] at this; have := Hnl.out; have := Hna.out; have := Hns.out; omega
  have hWW := Below.refl W.heap.size W
  have E12 := Lib.hid (And.intro e1 e2)
  have j1 : IntKind.i64.wrap ((ns : Int) + (nt : Int)) = (ns : Int) + (nt : Int) := by rw [IntKind.wrap_i64]; omega
  have j2 : IntKind.i64.wrap ((ns : Int) + (nt : Int) - (na : Int)) = (no : Int) := by rw [IntKind.wrap_i64]; omega
  have j3 : IntKind.i64.wrap ((ns : Int) - (na : Int)) = (nl : Int) := by rw [IntKind.wrap_i64]; omega
  clear e1 e2 hW ks ls kt lt ko lo ka la kl ll
  go_cut [71] (fun o wx => o = .bool false ∧ Below W.heap.size W wx)
  case first =>
    as_aux_lemma =>
    refine wp_region_held_drew (S := (fun w' => Below W.heap.size W w')) (by kernel_rfl) ?_ (fun hHeld => ?_)
    · (try dsimp only); (first | (with_reducible exact below_step (by assumption) hb1') | (repeat' (first | (with_reducible exact Below.refl _ _) | (with_reducible assumption) | (with_reducible exact Below.size (by assumption)) | (with_reducible refine Below.drew ?_))))
    refine wpAnyH_take (i := 0) (v := ?_) rfl (by kernel_rfl) (by kernel_rfl) (by kernel_rfl) (fun _ _ _ h => h) (Or.inl ⟨by rfl, ?_⟩) (by assumption) ?_
    rotate_left
    · (intro w hSw; (try dsimp only at hSw); go_simp; first | done | with_reducible rfl)
    try simp only [List.getElem_toArray, List.getElem_cons_zero, List.getElem_cons_succ, Act.put, List.setIfInBounds_toArray, List.set_cons_zero, List.set_cons_succ]
    refine wpAnyH_take (i := 1) (v := ?_) rfl (by kernel_rfl) (by kernel_rfl) (by kernel_rfl) (fun _ _ _ h => h) (Or.inl ⟨by rfl, ?_⟩) (by assumption) ?_
    rotate_left
    · (intro w hSw; (try dsimp only at hSw); go_simp; first | done | with_reducible rfl)
    try simp only [List.getElem_toArray, List.getElem_cons_zero, List.getElem_cons_succ, Act.put, List.setIfInBounds_toArray, List.set_cons_zero, List.set_cons_succ]
    refine wpAnyH_take (i := 2) (v := ?_) rfl (by kernel_rfl) (by kernel_rfl) (by kernel_rfl) (fun _ _ _ h => h) (Or.inl ⟨by rfl, ?_⟩) (by assumption) ?_
    rotate_left
    · (intro w hSw; (try dsimp only at hSw); go_simp; first | done | with_reducible rfl)
    try simp only [List.getElem_toArray, List.getElem_cons_zero, List.getElem_cons_succ, Act.put, List.setIfInBounds_toArray, List.set_cons_zero, List.set_cons_succ]
    refine wpAnyH_take (i := 3) (v := ?_) rfl (by kernel_rfl) (by kernel_rfl) (by kernel_rfl) (fun _ _ _ h => h) (Or.inl ⟨by rfl, ?_⟩) (by assumption) ?_
    rotate_left
    · (intro w hSw; (try dsimp only at hSw); go_simp; first | done | with_reducible rfl)
    try simp only [List.getElem_toArray, List.getElem_cons_zero, List.getElem_cons_succ, Act.put, List.setIfInBounds_toArray, List.set_cons_zero, List.set_cons_succ]
    refine wpAnyH_take (i := 5) (v := ?_) rfl (by kernel_rfl) (by kernel_rfl) (by kernel_rfl) (fun _ _ _ h => h) (Or.inl ⟨by rfl, ?_⟩) (by assumption) ?_
    rotate_left
    · (intro w hSw; (try dsimp only at hSw); go_simp; first | done | with_reducible rfl)
    try simp only [List.getElem_toArray, List.getElem_cons_zero, List.getElem_cons_succ, Act.put, List.setIfInBounds_toArray, List.set_cons_zero, List.set_cons_succ]
    refine wpAnyH_take (i := 7) (v := ?_) rfl (by kernel_rfl) (by kernel_rfl) (by kernel_rfl) (fun _ _ _ h => h) (Or.inl ⟨by rfl, ?_⟩) (by assumption) ?_
    rotate_left
    · (intro w hSw; (try dsimp only at hSw); go_simp; first | done | with_reducible rfl)
    try simp only [List.getElem_toArray, List.getElem_cons_zero, List.getElem_cons_succ, Act.put, List.setIfInBounds_toArray, List.set_cons_zero, List.set_cons_succ]
    refine wpAnyH_take (i := 10) (v := ?_) rfl (by kernel_rfl) (by kernel_rfl) (by kernel_rfl) (fun _ _ _ h => h) (Or.inl ⟨by rfl, ?_⟩) (by assumption) ?_
    rotate_left
    · (intro w hSw; (try dsimp only at hSw); go_simp; first | done | with_reducible rfl)
    try simp only [List.getElem_toArray, List.getElem_cons_zero, List.getElem_cons_succ, Act.put, List.setIfInBounds_toArray, List.set_cons_zero, List.set_cons_succ]
    refine wpAnyH_ready (rs := [4]) (by kernel_rfl) (by simp) ?_
    refine AllReadyH.cons rfl (fun K hK => ?_) AllReadyH.nil
    go_simp
    (go_at_call 15; (with_reducible refine (set_Len _ _ _ _).mono ?_); rintro e u1 ⟨rfl, hb1'⟩; have hq : Below W.heap.size W u1 := below_step (by assumption) hb1')
    go_wp2_with fail
    refine hK.out _ _ ?_ (fun hHeldN => ?_)
    · (try dsimp only); (first | (with_reducible exact below_step (by assumption) hb1') | (repeat' (first | (with_reducible exact Below.refl _ _) | (with_reducible assumption) | (with_reducible exact Below.size (by assumption)) | (with_reducible refine Below.drew ?_))))
    clear hK K hHeld
    try clear hb1' hq
    have hHeld := hHeldN
    clear hHeldN
    try simp only [List.getElem_toArray, List.getElem_cons_zero, List.getElem_cons_succ, Act.put, List.setIfInBounds_toArray, List.set_cons_zero, List.set_cons_succ]
    refine wpAnyH_ready (rs := [6]) (by kernel_rfl) (by simp) ?_
    refine AllReadyH.cons rfl (fun K hK => ?_) AllReadyH.nil
    go_simp
    (go_at_call 15; (with_reducible refine (set_Len _ _ _ _).mono ?_); rintro e u1 ⟨rfl, hb1'⟩; have hq : Below W.heap.size W u1 := below_step (by assumption) hb1')
    go_wp2_with fail
    refine hK.out _ _ ?_ (fun hHeldN => ?_)
    · (try dsimp only); (first | (with_reducible exact below_step (by assumption) hb1') | (repeat' (first | (with_reducible exact Below.refl _ _) | (with_reducible assumption) | (with_reducible exact Below.size (by assumption)) | (with_reducible refine Below.drew ?_))))
    clear hK K hHeld
    try clear hb1' hq
    have hHeld := hHeldN
    clear hHeldN
    try simp only [List.getElem_toArray, List.getElem_cons_zero, List.getElem_cons_succ, Act.put, List.setIfInBounds_toArray, List.set_cons_zero, List.set_cons_succ]
    refine wpAnyH_ready (rs := [8]) (by kernel_rfl) (by simp) ?_
    refine AllReadyH.cons rfl (fun K hK => ?_) AllReadyH.nil
    go_simp
    (go_at_call 15; (with_reducible refine (set_Len _ _ _ _).mono ?_); rintro e u1 ⟨rfl, hb1'⟩; have hq : Below W.heap.size W u1 := below_step (by assumption) hb1')
    go_wp2_with fail
    refine hK.out _ _ ?_ (fun hHeldN => ?_)
    · (try dsimp only); (first | (with_reducible exact below_step (by assumption) hb1') | (repeat' (first | (with_reducible exact Below.refl _ _) | (with_reducible assumption) | (with_reducible exact Below.size (by assumption)) | (with_reducible refine Below.drew ?_))))
    clear hK K hHeld
    try clear hb1' hq
    have hHeld := hHeldN
    clear hHeldN
    try simp only [List.getElem_toArray, List.getElem_cons_zero, List.getElem_cons_succ, Act.put, List.setIfInBounds_toArray, List.set_cons_zero, List.set_cons_succ]
    refine wpAnyH_take (i := 9) (v := ?_) rfl (by kernel_rfl) (by kernel_rfl) (by kernel_rfl) (fun _ _ _ h => h) (Or.inl ⟨by rfl, ?_⟩) (by assumption) ?_
    rotate_left
    · (intro w hSw; (try dsimp only at hSw); go_simp; first | done | with_reducible rfl)
    try simp only [List.getElem_toArray, List.getElem_cons_zero, List.getElem_cons_succ, Act.put, List.setIfInBounds_toArray, List.set_cons_zero, List.set_cons_succ]
    refine wpAnyH_ready (rs := [11]) (by kernel_rfl) (by simp) ?_
    refine AllReadyH.cons rfl (fun K hK => ?_) AllReadyH.nil
    go_simp
    (go_at_call 15; (with_reducible refine (set_Len _ _ _ _).mono ?_); rintro e u1 ⟨rfl, hb1'⟩; have hq : Below W.heap.size W u1 := below_step (by assumption) hb1')
    go_wp2_with fail
    refine hK.out _ _ ?_ (fun hHeldN => ?_)
    · (try dsimp only); (first | (with_reducible exact below_step (by assumption) hb1') | (repeat' (first | (with_reducible exact Below.refl _ _) | (with_reducible assumption) | (with_reducible exact Below.size (by assumption)) | (with_reducible refine Below.drew ?_))))
    clear hK K hHeld
    try clear hb1' hq
    have hHeld := hHeldN
    clear hHeldN
    try simp only [List.getElem_toArray, List.getElem_cons_zero, List.getElem_cons_succ, Act.put, List.setIfInBounds_toArray, List.set_cons_zero, List.set_cons_succ]
    refine wpAnyH_take (i := 12) (v := ?_) rfl (by kernel_rfl) (by kernel_rfl) (by kernel_rfl) (fun _ _ _ h => h) (Or.inl ⟨by rfl, ?_⟩) (by assumption) ?_
    rotate_left
    · (intro w hSw; (try dsimp only at hSw); go_simp; first | done | with_reducible rfl)
    try simp only [List.getElem_toArray, List.getElem_cons_zero, List.getElem_cons_succ, Act.put, List.setIfInBounds_toArray, List.set_cons_zero, List.set_cons_succ]
    refine wpAnyH_take (i := 13) (v := ?_) rfl (by kernel_rfl) (by kernel_rfl) (by kernel_rfl) (fun _ _ _ h => h) (Or.inl ⟨by rfl, ?_⟩) (by assumption) ?_
    rotate_left
    · (intro w hSw; (try dsimp only at hSw); go_simp; first | done | with_reducible rfl)
    try simp only [List.getElem_toArray, List.getElem_cons_zero, List.getElem_cons_succ, Act.put, List.setIfInBounds_toArray, List.set_cons_zero, List.set_cons_succ]
    refine wpAnyH_take (i := 14) (v := ?_) rfl (by kernel_rfl) (by kernel_rfl) (by kernel_rfl) (fun _ _ _ h => h) (Or.inl ⟨by rfl, ?_⟩) (by assumption) ?_
    rotate_left
    · (intro w hSw; (try dsimp only at hSw); go_simp; first | done | with_reducible rfl)
    try simp only [List.getElem_toArray, List.getElem_cons_zero, List.getElem_cons_succ, Act.put, List.setIfInBounds_toArray, List.set_cons_zero, List.set_cons_succ]
    refine wpAnyH_take (i := 15) (v := ?_) rfl (by kernel_rfl) (by kernel_rfl) (by kernel_rfl) (fun _ _ _ h => h) (Or.inl ⟨by rfl, ?_⟩) (by assumption) ?_
    rotate_left
    · (intro w hSw; (try dsimp only at hSw); go_simp; first | done | with_reducible rfl)
    try simp only [List.getElem_toArray, List.getElem_cons_zero, List.getElem_cons_succ, Act.put, List.setIfInBounds_toArray, List.set_cons_zero, List.set_cons_succ]
    refine wpAnyH_take (i := 16) (v := ?_) rfl (by kernel_rfl) (by kernel_rfl) (by kernel_rfl) (fun _ _ _ h => h) (Or.inl ⟨by rfl, ?_⟩) (by assumption) ?_
    rotate_left
    · (intro w hSw; (try dsimp only at hSw); go_simp; first | done | with_reducible rfl)
    try simp only [List.getElem_toArray, List.getElem_cons_zero, List.getElem_cons_succ, Act.put, List.setIfInBounds_toArray, List.set_cons_zero, List.set_cons_succ]
    refine wpAnyH_take (i := 18) (v := ?_) rfl (by kernel_rfl) (by kernel_rfl) (by kernel_rfl) (fun _ _ _ h => h) (Or.inl ⟨by rfl, ?_⟩) (by assumption) ?_
    rotate_left
    · (intro w hSw; (try dsimp only at hSw); go_simp; first | done | with_reducible rfl)
    try simp only [List.getElem_toArray, List.getElem_cons_zero, List.getElem_cons_succ, Act.put, List.setIfInBounds_toArray, List.set_cons_zero, List.set_cons_succ]
    refine wpAnyH_take (i := 20) (v := ?_) rfl (by kernel_rfl) (by kernel_rfl) (by kernel_rfl) (fun _ _ _ h => h) (Or.inl ⟨by rfl, ?_⟩) (by assumption) ?_
    rotate_left
    · (intro w hSw; (try dsimp only at hSw); go_simp; first | done | with_reducible rfl)
    try simp only [List.getElem_toArray, List.getElem_cons_zero, List.getElem_cons_succ, Act.put, List.setIfInBounds_toArray, List.set_cons_zero, List.set_cons_succ]
    refine wpAnyH_ready (rs := [17]) (by kernel_rfl) (by simp) ?_
    refine AllReadyH.cons rfl (fun K hK => ?_) AllReadyH.nil
    go_simp
    (go_at_call 15; (with_reducible refine (set_Len _ _ _ _).mono ?_); rintro e u1 ⟨rfl, hb1'⟩; have hq : Below W.heap.size W u1 := below_step (by assumption) hb1')
    go_wp2_with fail
    refine hK.out _ _ ?_ (fun hHeldN => ?_)
    · (try dsimp only); (first | (with_reducible exact below_step (by assumption) hb1') | (repeat' (first | (with_reducible exact Below.refl _ _) | (with_reducible assumption) | (with_reducible exact Below.size (by assumption)) | (with_reducible refine Below.drew ?_))))
    clear hK K hHeld
    try clear hb1' hq
    have hHeld := hHeldN
    clear hHeldN
    try simp only [List.getElem_toArray, List.getElem_cons_zero, List.getElem_cons_succ, Act.put, List.setIfInBounds_toArray, List.set_cons_zero, List.set_cons_succ]
    refine wpAnyH_ready (rs := [19]) (by kernel_rfl) (by simp) ?_
    refine AllReadyH.cons rfl (fun K hK => ?_) AllReadyH.nil
    go_simp
    (go_at_call 15; (with_reducible refine (set_Len _ _ _ _).mono ?_); rintro e u1 ⟨rfl, hb1'⟩; have hq : Below W.heap.size W u1 := below_step (by assumption) hb1')
    go_wp2_with fail
    refine hK.out _ _ ?_ (fun hHeldN => ?_)
    · (try dsimp only); (first | (with_reducible exact below_step (by assumption) hb1') | (repeat' (first | (with_reducible exact Below.refl _ _) | (with_reducible assumption) | (with_reducible exact Below.size (by assumption)) | (with_reducible refine Below.drew ?_))))
    clear hK K hHeld
    try clear hb1' hq
    have hHeld := hHeldN
    clear hHeldN
    try simp only [List.getElem_toArray, List.getElem_cons_zero, List.getElem_cons_succ, Act.put, List.setIfInBounds_toArray, List.set_cons_zero, List.set_cons_succ]
    refine wpAnyH_ready (rs := [21]) (by kernel_rfl) (by simp) ?_
    refine AllReadyH.cons rfl (fun K hK => ?_) AllReadyH.nil
    go_simp
    (go_at_call 15; (with_reducible refine (set_Len _ _ _ _).mono ?_); rintro e u1 ⟨rfl, hb1'⟩; have hq : Below W.heap.size W u1 := below_step (by assumption) hb1')
    go_wp2_with fail
    refine hK.out _ _ ?_ (fun hHeldN => ?_)
    · (try dsimp only); (first | (with_reducible exact below_step (by assumption) hb1') | (repeat' (first | (with_reducible exact Below.refl _ _) | (with_reducible assumption) | (with_reducible exact Below.size (by assumption)) | (with_reducible refine Below.drew ?_))))
    clear hK K hHeld
    try clear hb1' hq
    have hHeld := hHeldN
    clear hHeldN
    try simp only [List.getElem_toArray, List.getElem_cons_zero, List.getElem_cons_succ, Act.put, List.setIfInBounds_toArray, List.set_cons_zero, List.set_cons_succ]
    refine wpAnyH_take (i := 22) (v := ?_) rfl (by kernel_rfl) (by kernel_rfl) (by kernel_rfl) (fun _ _ _ h => h) (Or.inl ⟨by rfl, ?_⟩) (by assumption) ?_
    rotate_left
    · (intro w hSw; (try dsimp only at hSw); go_simp; first | done | with_reducible rfl)
    try simp only [List.getElem_toArray, List.getElem_cons_zero, List.getElem_cons_succ, Act.put, List.setIfInBounds_toArray, List.set_cons_zero, List.set_cons_succ]
    refine wpAnyH_take (i := 23) (v := ?_) rfl (by kernel_rfl) (by kernel_rfl) (by kernel_rfl) (fun _ _ _ h => h) (Or.inl ⟨by rfl, ?_⟩) (by assumption) ?_
    rotate_left
    · (intro w hSw; (try dsimp only at hSw); go_simp; first | done | with_reducible rfl)
    try simp only [List.getElem_toArray, List.getElem_cons_zero, List.getElem_cons_succ, Act.put, List.setIfInBounds_toArray, List.set_cons_zero, List.set_cons_succ]
    refine wpAnyH_take (i := 24) (v := ?_) rfl (by kernel_rfl) (by kernel_rfl) (by kernel_rfl) (fun _ _ _ h => h) (Or.inl ⟨by rfl, ?_⟩) (by assumption) ?_
    rotate_left
    · (intro w hSw; (try dsimp only at hSw); go_simp; first | done | with_reducible rfl)
    try simp only [List.getElem_toArray, List.getElem_cons_zero, List.getElem_cons_succ, Act.put, List.setIfInBounds_toArray, List.set_cons_zero, List.set_cons_succ]
    refine wpAnyH_done (by kernel_rfl) ?_ _
    go_wp2_with fail
    go_meet
    exact ⟨rfl, by assumption⟩
  case rest =>
  clear hWW j1 j2 j3
  obtain ⟨rfl, hWW⟩ := hcut
  have HB6 := Lib.hid (HG.out.below.trans (hWW.mono HG.out.below.size))
  have qo := xo _ hWW
  have hno6 : no ≤ 120 := by have := E12.out.1; omega
  have hna6 : na ≤ 60 := by have := E12.out.2; omega
  have hnl6 : nl ≤ 60 := by have := E12.out.2; omega
  have hlist := set_ListF wc _ Ao no co O ((listR_ok pfxR_ok).below Lo.out hWW HF.out) (HF.out.below hWW) (by omega)
  have Hlist := Lib.hid hlist
  have HWW := Lib.hid hWW
  clear hWW hlist
  go_wp2_with fail
  refine Hlist.out.mono ?_
  rintro e w6 ⟨A6, c6, F6, rfl, hl6, hF6, hb6⟩
  have HL6 := Lib.hid hl6
  have HF6 := Lib.hid hF6
  have HW6 := Lib.hid (below_step HWW.out hb6)
  clear hl6 hF6 hb6 qo Hlist HWW
  go_wp2_with fail
  go_loopw [75] (fun i wr => ∃ k : Nat, k ≤ no ∧ i = .int .i64 k ∧ Below w6.heap.size w6 wr) (fun i _ => no - (intOf i).toNat)
  case atStart => exact ⟨0, Nat.zero_le _, rfl, Below.refl _ _⟩
  case round =>
  obtain ⟨k, hk, rfl, hB⟩ := hrel
  have HBW := Lib.hid (below_step HW6.out hB)
  by_cases hlt : k < no
  rotate_left
  · go_upto_region 19 with fail
    have HS := Lib.hid (HS9.out.step HBW.out)
    have hs1 : nl + na ≤ 4096 := by have := E12.out.2; omega
    have hs2 : nt + ns ≤ 4096 := by omega
    clear hB HB6 HL6 HF6 HW6
    go_upto_region 19 with fail
    refine wp_gen (fun W => LSt w F W _ _) HS.out ?_
    intro W hW
    have hall := hW.fact
    simp only [List.forall_mem_cons] at hall
    obtain ⟨⟨kl, ll⟩, ⟨ka, la⟩, ⟨ko, lo⟩, ⟨kt, lt⟩, ⟨ks, ls⟩, _⟩ := hall
    have qs := ks.cell 0
    have qt := kt.cell 0
    have qo := ko.cell 0
    have qa := ka.cell 0
    have ql := kl.cell 0
    have HS0 := Lib.hid hW
    have HF0 := Lib.hid hW.grew.lt
    have Ls := Lib.hid ls
    have Lt := Lib.hid lt
    have Lo := Lib.hid lo
    have La := Lib.hid la
    have Ll := Lib.hid ll
    clear hW HS ks ls kt lt ko lo ka la kl ll
    go_wp2_with fail
    refine (set_OrS W _ Al nl cl D Aa na ca N Ll.out La.out HF0.out (by omega)).mono ?_
    rintro e w8 ⟨Ab, nb, cb, F8, rfl, hg, hl, hnb⟩
    rw [HD.out, HNN.out, HM.out.both] at hl hnb
    have Hnb := Lib.hid hnb
    clear hnb
    have HS := Lib.hid ((HS0.out.go hg).new hl)
    clear hg hl HS0 HF0 qs Ls qt Lt qo Lo qa La ql Ll
    go_upto_region 20 with fail
    refine wp_gen (fun W => LSt w F W _ _) HS.out ?_
    intro W hW
    have hall := hW.fact
    simp only [List.forall_mem_cons] at hall
    obtain ⟨⟨kb, lb⟩, ⟨kl, ll⟩, ⟨ka, la⟩, ⟨ko, lo⟩, ⟨kt, lt⟩, ⟨ks, ls⟩, _⟩ := hall
    have qs := ks.cell 0
    have qt := kt.cell 0
    have qo := ko.cell 0
    have qa := ka.cell 0
    have ql := kl.cell 0
    have qb := kb.cell 0
    have HS0 := Lib.hid hW
    have HF0 := Lib.hid hW.grew.lt
    have Ls := Lib.hid ls
    have Lt := Lib.hid lt
    have Lo := Lib.hid lo
    have La := Lib.hid la
    have Ll := Lib.hid ll
    have Lb := Lib.hid lb
    clear hW HS ks ls kt lt ko lo ka la kl ll kb lb
    go_wp2_with fail
    refine (set_OrS W _ At nt ct t As ns cs s Lt.out Ls.out HF0.out (by omega)).mono ?_
    rintro e w9 ⟨Ak, nk, ck, F9, rfl, hg, hl, hnk⟩
    rw [HM.out.back, ← HO.out] at hl hnk
    have Hnk := Lib.hid hnk
    clear hnk
    have HS := Lib.hid ((HS0.out.go hg).new hl)
    clear hg hl HS0 HF0 qs Ls qt Lt qo Lo qa La ql Ll qb Lb
    go_upto_region 21 with fail
    refine wp_gen (fun W => LSt w F W _ _) HS.out ?_
    clear HBW xs xt xo xa xl Ls Lt Lo La Ll Ks Kt Ko Ka Kl HF HG
    intro W hW
    have hall := hW.fact
    simp only [List.forall_mem_cons] at hall
    obtain ⟨⟨kk, lk⟩, ⟨kb, lb⟩, ⟨kl, ll⟩, ⟨ka, la⟩, ⟨ko, lo⟩, ⟨kt, lt⟩, ⟨ks, ls⟩, _⟩ := hall
    have xs : ∀ w', Below W.heap.size W w' → w'.cell? ⟨_, 0, none⟩ = some (.slice As ns cs) := fun w' h => (ks.below h ks.lt).cell 0
    have Ls := Lib.hid ls
    have xt : ∀ w', Below W.heap.size W w' → w'.cell? ⟨_, 0, none⟩ = some (.slice At nt ct) := fun w' h => (kt.below h kt.lt).cell 0
    have Lt := Lib.hid lt
    have xo : ∀ w', Below W.heap.size W w' → w'.cell? ⟨_, 0, none⟩ = some (.slice Ao no co) := fun w' h => (ko.below h ko.lt).cell 0
    have Lo := Lib.hid lo
    have xa : ∀ w', Below W.heap.size W w' → w'.cell? ⟨_, 0, none⟩ = some (.slice Aa na ca) := fun w' h => (ka.below h ka.lt).cell 0
    have La := Lib.hid la
    have xl : ∀ w', Below W.heap.size W w' → w'.cell? ⟨_, 0, none⟩ = some (.slice Al nl cl) := fun w' h => (kl.below h kl.lt).cell 0
    have Ll := Lib.hid ll
    have xb : ∀ w', Below W.heap.size W w' → w'.cell? ⟨_, 0, none⟩ = some (.slice Ab nb cb) := fun w' h => (kb.below h kb.lt).cell 0
    have Lb := Lib.hid lb
    have xk : ∀ w', Below W.heap.size W w' → w'.cell? ⟨_, 0, none⟩ = some (.slice Ak nk ck) := fun w' h => (kk.below h kk.lt).cell 0
    have Lk := Lib.hid lk
    have HF := Lib.hid hW.grew.lt
    have HG := Lib.hid hW.grew.below
    have hWW := Below.refl W.heap.size W
    have c1 := fun w' (h : Below W.heap.size W w') => set_Same w' _ Ab As nb cb ns cs s s ((listR_ok pfxR_ok).below Lb.out h HF.out) ((listR_ok pfxR_ok).below Ls.out h HF.out) (HF.out.below h)
    have c2 := fun w' (h : Below W.heap.size W w') => set_Same w' _ Ak Ao nk ck no co O O ((listR_ok pfxR_ok).below Lk.out h HF.out) ((listR_ok pfxR_ok).below Lo.out h HF.out) (HF.out.below h)
    have c3 := fun w' (h : Below W.heap.size W w') => set_Same w' _ As At ns cs nt ct s t ((listR_ok pfxR_ok).below Ls.out h HF.out) ((listR_ok pfxR_ok).below Lt.out h HF.out) (HF.out.below h)
    have c4 := fun w' (h : Below W.heap.size W w') => set_LessS w' _ At nt ct t As ns cs s ((listR_ok pfxR_ok).below Lt.out h HF.out) ((listR_ok pfxR_ok).below Ls.out h HF.out) (HF.out.below h) hs2
    rw [eqPs_iff.2 rfl] at c1 c2
    rw [HM.out.same, ← HD.out, ← Hnl.out] at c3
    obtain ⟨z, hz⟩ : ∃ z, z = (mergeL kLess t s).length := ⟨_, rfl⟩
    rw [← hz] at c3
    have HZ := Lib.hid hz
    have C1 := Lib.hid c1
    have C2 := Lib.hid c2
    have C4 := Lib.hid c4
    clear c1 c2 c4 hz hW ks ls kt lt ko lo ka la kl ll kb lb kk lk
    by_cases hnl0 : nl = 0
    · have b1 : ((nl : Int) == 0) = true := by rw [beq_iff_eq]; omega
      rw [decide_eq_true hnl0, Bool.true_and] at c3
      by_cases hz0 : z = 0
      · have b2 : ((z : Int) == 0) = true := by rw [beq_iff_eq]; omega
        rw [decide_eq_true hz0] at c3
        have C3 := Lib.hid c3
        clear c3 hz0 hnl0
        refine wp_region_held_drew (S := (fun w' => Below W.heap.size W w')) (by kernel_rfl) ?_ (fun hHeld => ?_)
        · (try dsimp only); (first | (with_reducible exact below_step (by assumption) hb1') | (repeat' (first | (with_reducible exact Below.refl _ _) | (with_reducible assumption) | (with_reducible exact Below.size (by assumption)) | (with_reducible refine Below.drew ?_))))
        refine wpAnyH_take (i := 0) (v := ?_) rfl (by kernel_rfl) (by kernel_rfl) (by kernel_rfl) (fun _ _ _ h => h) (Or.inl ⟨by rfl, ?_⟩) (by assumption) ?_
        rotate_left
        · (intro w hSw; (try dsimp only at hSw); go_simp; first | done | with_reducible rfl)
        try simp only [List.getElem_toArray, List.getElem_cons_zero, List.getElem_cons_succ, Act.put, List.setIfInBounds_toArray, List.set_cons_zero, List.set_cons_succ]
        refine wpAnyH_take (i := 1) (v := ?_) rfl (by kernel_rfl) (by kernel_rfl) (by kernel_rfl) (fun _ _ _ h => h) (Or.inl ⟨by rfl, ?_⟩) (by assumption) ?_
        rotate_left
        · (intro w hSw; (try dsimp only at hSw); go_simp; first | done | with_reducible rfl)
        try simp only [List.getElem_toArray, List.getElem_cons_zero, List.getElem_cons_succ, Act.put, List.setIfInBounds_toArray, List.set_cons_zero, List.set_cons_succ]
        refine wpAnyH_take (i := 2) (v := ?_) rfl (by kernel_rfl) (by kernel_rfl) (by kernel_rfl) (fun _ _ _ h => h) (Or.inl ⟨by rfl, ?_⟩) (by assumption) ?_
        rotate_left
        · (intro w hSw; (try dsimp only at hSw); go_simp; first | done | with_reducible rfl)
        try simp only [List.getElem_toArray, List.getElem_cons_zero, List.getElem_cons_succ, Act.put, List.setIfInBounds_toArray, List.set_cons_zero, List.set_cons_succ]
        refine wpAnyH_take (i := 3) (v := ?_) rfl (by kernel_rfl) (by kernel_rfl) (by kernel_rfl) (fun _ _ _ h => h) (Or.inl ⟨by rfl, ?_⟩) (by assumption) ?_
        rotate_left
        · (intro w hSw; (try dsimp only at hSw); go_simp; first | done | with_reducible rfl)
        try simp only [List.getElem_toArray, List.getElem_cons_zero, List.getElem_cons_succ, Act.put, List.setIfInBounds_toArray, List.set_cons_zero, List.set_cons_succ]
        refine wpAnyH_take (i := 4) (v := ?_) rfl (by kernel_rfl) (by kernel_rfl) (by kernel_rfl) (fun _ _ _ h => h) (Or.inl ⟨by rfl, ?_⟩) (by assumption) ?_
        rotate_left
        · (intro w hSw; (try dsimp only at hSw); go_simp; first | done | with_reducible rfl)
        try simp only [List.getElem_toArray, List.getElem_cons_zero, List.getElem_cons_succ, Act.put, List.setIfInBounds_toArray, List.set_cons_zero, List.set_cons_succ]
        refine wpAnyH_ready (rs := [5]) (by kernel_rfl) (by simp) ?_
        refine AllReadyH.cons rfl (fun K hK => ?_) AllReadyH.nil
        go_simp
        (go_at_call 24; (with_reducible refine (C1.out _ ?_).mono ?_); assumption; rintro e u1 ⟨rfl, hb1'⟩; have hq : Below W.heap.size W u1 := below_step (by assumption) hb1')
        go_wp2_with fail
        refine hK.out _ _ ?_ (fun hHeldN => ?_)
        · (try dsimp only); (first | (with_reducible exact below_step (by assumption) hb1') | (repeat' (first | (with_reducible exact Below.refl _ _) | (with_reducible assumption) | (with_reducible exact Below.size (by assumption)) | (with_reducible refine Below.drew ?_))))
        clear hK K hHeld
        try clear hb1' hq
        have hHeld := hHeldN
        clear hHeldN
        try simp only [List.getElem_toArray, List.getElem_cons_zero, List.getElem_cons_succ, Act.put, List.setIfInBounds_toArray, List.set_cons_zero, List.set_cons_succ]
        refine wpAnyH_take (i := 6) (v := ?_) rfl (by kernel_rfl) (by kernel_rfl) (by kernel_rfl) (fun _ _ _ h => h) (Or.inl ⟨by rfl, ?_⟩) (by assumption) ?_
        rotate_left
        · (intro w hSw; (try dsimp only at hSw); go_simp; first | done | with_reducible rfl)
        try simp only [List.getElem_toArray, List.getElem_cons_zero, List.getElem_cons_succ, Act.put, List.setIfInBounds_toArray, List.set_cons_zero, List.set_cons_succ]
        refine wpAnyH_take (i := 7) (v := ?_) rfl (by kernel_rfl) (by kernel_rfl) (by kernel_rfl) (fun _ _ _ h => h) (Or.inl ⟨by rfl, ?_⟩) (by assumption) ?_
        rotate_left
        · (intro w hSw; (try dsimp only at hSw); go_simp; first | done | with_reducible rfl)
        try simp only [List.getElem_toArray, List.getElem_cons_zero, List.getElem_cons_succ, Act.put, List.setIfInBounds_toArray, List.set_cons_zero, List.set_cons_succ]
        refine wpAnyH_take (i := 8) (v := ?_) rfl (by kernel_rfl) (by kernel_rfl) (by kernel_rfl) (fun _ _ _ h => h) (Or.inl ⟨by rfl, ?_⟩) (by assumption) ?_
        rotate_left
        · (intro w hSw; (try dsimp only at hSw); go_simp; first | done | with_reducible rfl)
        try simp only [List.getElem_toArray, List.getElem_cons_zero, List.getElem_cons_succ, Act.put, List.setIfInBounds_toArray, List.set_cons_zero, List.set_cons_succ]
        refine wpAnyH_take (i := 9) (v := ?_) rfl (by kernel_rfl) (by kernel_rfl) (by kernel_rfl) (fun _ _ _ h => h) (Or.inl ⟨by rfl, ?_⟩) (by assumption) ?_
        rotate_left
        · (intro w hSw; (try dsimp only at hSw); go_simp; first | done | with_reducible rfl)
        try simp only [List.getElem_toArray, List.getElem_cons_zero, List.getElem_cons_succ, Act.put, List.setIfInBounds_toArray, List.set_cons_zero, List.set_cons_succ]
        refine wpAnyH_ready (rs := [10]) (by kernel_rfl) (by simp) ?_
        refine AllReadyH.cons rfl (fun K hK => ?_) AllReadyH.nil
        go_simp
        (go_at_call 24; (with_reducible refine (C2.out _ ?_).mono ?_); assumption; rintro e u1 ⟨rfl, hb1'⟩; have hq : Below W.heap.size W u1 := below_step (by assumption) hb1')
        go_wp2_with fail
        refine hK.out _ _ ?_ (fun hHeldN => ?_)
        · (try dsimp only); (first | (with_reducible exact below_step (by assumption) hb1') | (repeat' (first | (with_reducible exact Below.refl _ _) | (with_reducible assumption) | (with_reducible exact Below.size (by assumption)) | (with_reducible refine Below.drew ?_))))
        clear hK K hHeld
        try clear hb1' hq
        have hHeld := hHeldN
        clear hHeldN
        try simp only [List.getElem_toArray, List.getElem_cons_zero, List.getElem_cons_succ, Act.put, List.setIfInBounds_toArray, List.set_cons_zero, List.set_cons_succ]
        refine wpAnyH_take (i := 11) (v := ?_) rfl (by kernel_rfl) (by kernel_rfl) (by kernel_rfl) (fun _ _ _ h => h) (Or.inl ⟨by rfl, ?_⟩) (by assumption) ?_
        rotate_left
        · (intro w hSw; (try dsimp only at hSw); go_simp; first | done | with_reducible rfl)
        try simp only [List.getElem_toArray, List.getElem_cons_zero, List.getElem_cons_succ, Act.put, List.setIfInBounds_toArray, List.set_cons_zero, List.set_cons_succ]
        refine wpAnyH_take (i := 12) (v := ?_) rfl (by kernel_rfl) (by kernel_rfl) (by kernel_rfl) (fun _ _ _ h => h) (Or.inl ⟨by rfl, ?_⟩) (by assumption) ?_
        rotate_left
        · (intro w hSw; (try dsimp only at hSw); go_simp; first | done | with_reducible rfl)
        try simp only [List.getElem_toArray, List.getElem_cons_zero, List.getElem_cons_succ, Act.put, List.setIfInBounds_toArray, List.set_cons_zero, List.set_cons_succ]
        refine wpAnyH_take (i := 13) (v := ?_) rfl (by kernel_rfl) (by kernel_rfl) (by kernel_rfl) (fun _ _ _ h => h) (Or.inl ⟨by rfl, ?_⟩) (by assumption) ?_
        rotate_left
        · (intro w hSw; (try dsimp only at hSw); go_simp; first | done | with_reducible rfl)
        try simp only [List.getElem_toArray, List.getElem_cons_zero, List.getElem_cons_succ, Act.put, List.setIfInBounds_toArray, List.set_cons_zero, List.set_cons_succ]
        refine wpAnyH_take (i := 14) (v := ?_) rfl (by kernel_rfl) (by kernel_rfl) (by kernel_rfl) (fun _ _ _ h => h) (Or.inl ⟨by rfl, ?_⟩) (by assumption) ?_
        rotate_left
        · (intro w hSw; (try dsimp only at hSw); go_simp; first | done | with_reducible rfl)
        try simp only [List.getElem_toArray, List.getElem_cons_zero, List.getElem_cons_succ, Act.put, List.setIfInBounds_toArray, List.set_cons_zero, List.set_cons_succ]
        refine wpAnyH_take (i := 16) (v := ?_) rfl (by kernel_rfl) (by kernel_rfl) (by kernel_rfl) (fun _ _ _ h => h) (Or.inl ⟨by rfl, ?_⟩) (by assumption) ?_
        rotate_left
        · (intro w hSw; (try dsimp only at hSw); go_simp; first | done | with_reducible rfl)
        try simp only [List.getElem_toArray, List.getElem_cons_zero, List.getElem_cons_succ, Act.put, List.setIfInBounds_toArray, List.set_cons_zero, List.set_cons_succ]
        refine wpAnyH_ready (rs := [15]) (by kernel_rfl) (by simp) ?_
        refine AllReadyH.cons rfl (fun K hK => ?_) AllReadyH.nil
        go_simp
        (go_at_call 24; (with_reducible refine (C3.out _ ?_).mono ?_); assumption; rintro e u1 ⟨rfl, hb1'⟩; have hq : Below W.heap.size W u1 := below_step (by assumption) hb1')
        go_wp2_with fail
        refine hK.out _ _ ?_ (fun hHeldN => ?_)
        · (try dsimp only); (first | (with_reducible exact below_step (by assumption) hb1') | (repeat' (first | (with_reducible exact Below.refl _ _) | (with_reducible assumption) | (with_reducible exact Below.size (by assumption)) | (with_reducible refine Below.drew ?_))))
        clear hK K hHeld
        try clear hb1' hq
        have hHeld := hHeldN
        clear hHeldN
        try simp only [List.getElem_toArray, List.getElem_cons_zero, List.getElem_cons_succ, Act.put, List.setIfInBounds_toArray, List.set_cons_zero, List.set_cons_succ]
        refine wpAnyH_ready (rs := [17]) (by kernel_rfl) (by simp) ?_
        refine AllReadyH.cons rfl (fun K hK => ?_) AllReadyH.nil
        go_simp
        (go_at_call 15; (with_reducible refine (set_Len _ _ _ _).mono ?_); rintro e u1 ⟨rfl, hb1'⟩; have hq : Below W.heap.size W u1 := below_step (by assumption) hb1')
        go_wp2_with fail
        refine hK.out _ _ ?_ (fun hHeldN => ?_)
        · (try dsimp only); (first | (with_reducible exact below_step (by assumption) hb1') | (repeat' (first | (with_reducible exact Below.refl _ _) | (with_reducible assumption) | (with_reducible exact Below.size (by assumption)) | (with_reducible refine Below.drew ?_))))
        clear hK K hHeld
        try clear hb1' hq
        have hHeld := hHeldN
        clear hHeldN
        try simp only [List.getElem_toArray, List.getElem_cons_zero, List.getElem_cons_succ, Act.put, List.setIfInBounds_toArray, List.set_cons_zero, List.set_cons_succ]
        refine wpAnyH_take (i := 18) (v := ?_) rfl (by kernel_rfl) (by kernel_rfl) (by kernel_rfl) (fun _ _ _ h => h) (Or.inl ⟨by rfl, ?_⟩) (by assumption) ?_
        rotate_left
        · (intro w hSw; (try dsimp only at hSw); go_simp; first | done | with_reducible rfl)
        try simp only [List.getElem_toArray, List.getElem_cons_zero, List.getElem_cons_succ, Act.put, List.setIfInBounds_toArray, List.set_cons_zero, List.set_cons_succ]
        refine wpAnyH_take (i := 19) (v := ?_) rfl (by kernel_rfl) (by kernel_rfl) (by kernel_rfl) (fun _ _ _ h => h) (Or.inl ⟨by rfl, ?_⟩) (by assumption) ?_
        rotate_left
        · (intro w hSw; (try dsimp only at hSw); go_simp; first | done | with_reducible rfl)
        try simp only [List.getElem_toArray, List.getElem_cons_zero, List.getElem_cons_succ, Act.put, List.setIfInBounds_toArray, List.set_cons_zero, List.set_cons_succ]
        refine wpAnyH_take (i := 20) (v := ?_) rfl (by kernel_rfl) (by kernel_rfl) (by kernel_rfl) (fun _ _ _ h => h) (Or.inl ⟨by rfl, ?_⟩) (by assumption) ?_
        rotate_left
        · (intro w hSw; (try dsimp only at hSw); go_simp; first | done | with_reducible rfl)
        try simp only [List.getElem_toArray, List.getElem_cons_zero, List.getElem_cons_succ, Act.put, List.setIfInBounds_toArray, List.set_cons_zero, List.set_cons_succ]
        refine wpAnyH_take (i := 21) (v := ?_) rfl (by kernel_rfl) (by kernel_rfl) (by kernel_rfl) (fun _ _ _ h => h) (Or.inl ⟨by rfl, ?_⟩) (by assumption) ?_
        rotate_left
        · (intro w hSw; (try dsimp only at hSw); go_simp; first | done | with_reducible rfl)
        try simp only [List.getElem_toArray, List.getElem_cons_zero, List.getElem_cons_succ, Act.put, List.setIfInBounds_toArray, List.set_cons_zero, List.set_cons_succ]
        refine wpAnyH_ready (rs := [22]) (by kernel_rfl) (by simp) ?_
        refine AllReadyH.cons rfl (fun K hK => ?_) AllReadyH.nil
        go_simp
        (go_at_call 29; (with_reducible refine (C4.out _ ?_).mono ?_); assumption; rintro e u1 ⟨A9, n9, c9, F9, rfl, hg9, hl9, hn9⟩; rw [← HZ.out] at hn9; subst hn9; have hb1' := hg9.below; clear hg9 hl9; have hq : Below W.heap.size W u1 := below_step (by assumption) hb1')
        go_wp2_with fail
        refine hK.out _ _ ?_ (fun hHeldN => ?_)
        · (try dsimp only); (first | (with_reducible exact below_step (by assumption) hb1') | (repeat' (first | (with_reducible exact Below.refl _ _) | (with_reducible assumption) | (with_reducible exact Below.size (by assumption)) | (with_reducible refine Below.drew ?_))))
        clear hK K hHeld
        try clear hb1' hq
        have hHeld := hHeldN
        clear hHeldN
        try simp only [List.getElem_toArray, List.getElem_cons_zero, List.getElem_cons_succ, Act.put, List.setIfInBounds_toArray, List.set_cons_zero, List.set_cons_succ]
        refine wpAnyH_ready (rs := [23]) (by kernel_rfl) (by simp) ?_
        refine AllReadyH.cons rfl (fun K hK => ?_) AllReadyH.nil
        go_simp
        (go_at_call 15; (with_reducible refine (set_Len _ _ _ _).mono ?_); rintro e u1 ⟨rfl, hb1'⟩; have hq : Below W.heap.size W u1 := below_step (by assumption) hb1')
        go_wp2_with fail
        refine hK.out _ _ ?_ (fun hHeldN => ?_)
        · (try dsimp only); (first | (with_reducible exact below_step (by assumption) hb1') | (repeat' (first | (with_reducible exact Below.refl _ _) | (with_reducible assumption) | (with_reducible exact Below.size (by assumption)) | (with_reducible refine Below.drew ?_))))
        clear hK K hHeld
        try clear hb1' hq
        have hHeld := hHeldN
        clear hHeldN
        try simp only [List.getElem_toArray, List.getElem_cons_zero, List.getElem_cons_succ, Act.put, List.setIfInBounds_toArray, List.set_cons_zero, List.set_cons_succ]
        refine wpAnyH_take (i := 24) (v := ?_) rfl (by kernel_rfl) (by kernel_rfl) (by kernel_rfl) (fun _ _ _ h => h) (Or.inl ⟨by rfl, ?_⟩) (by assumption) ?_
        rotate_left
        · (intro w hSw; (try dsimp only at hSw); go_simp; first | done | with_reducible rfl)
        try simp only [List.getElem_toArray, List.getElem_cons_zero, List.getElem_cons_succ, Act.put, List.setIfInBounds_toArray, List.set_cons_zero, List.set_cons_succ]
        refine wpAnyH_take (i := 25) (v := ?_) rfl (by kernel_rfl) (by kernel_rfl) (by kernel_rfl) (fun _ _ _ h => h) (Or.inl ⟨by rfl, ?_⟩) (by assumption) ?_
        rotate_left
        · (intro w hSw; (try dsimp only at hSw); go_simp; first | done | with_reducible rfl)
        try simp only [List.getElem_toArray, List.getElem_cons_zero, List.getElem_cons_succ, Act.put, List.setIfInBounds_toArray, List.set_cons_zero, List.set_cons_succ]
        refine wpAnyH_take (i := 26) (v := ?_) rfl (by kernel_rfl) (by kernel_rfl) (by kernel_rfl) (fun _ _ _ h => h) (Or.inl ⟨by rfl, ?_⟩) (by assumption) ?_
        rotate_left
        · (intro w hSw; (try dsimp only at hSw); go_simp; first | done | with_reducible rfl)
        try simp only [List.getElem_toArray, List.getElem_cons_zero, List.getElem_cons_succ, Act.put, List.setIfInBounds_toArray, List.set_cons_zero, List.set_cons_succ]
        refine wpAnyH_take (i := 27) (v := ?_) rfl (by kernel_rfl) (by kernel_rfl) (by kernel_rfl) (fun _ _ _ h => h) (Or.inl ⟨by rfl, ?_⟩) (by assumption) ?_
        rotate_left
        · (intro w hSw; (try dsimp only at hSw); go_simp; first | done | with_reducible rfl)
        try simp only [List.getElem_toArray, List.getElem_cons_zero, List.getElem_cons_succ, Act.put, List.setIfInBounds_toArray, List.set_cons_zero, List.set_cons_succ]
        refine wpAnyH_take (i := 28) (v := ?_) rfl (by kernel_rfl) (by kernel_rfl) (by kernel_rfl) (fun _ _ _ h => h) (Or.inl ⟨by rfl, ?_⟩) (by assumption) ?_
        rotate_left
        · (intro w hSw; (try dsimp only at hSw); go_simp; first | done | with_reducible rfl)
        try simp only [List.getElem_toArray, List.getElem_cons_zero, List.getElem_cons_succ, Act.put, List.setIfInBounds_toArray, List.set_cons_zero, List.set_cons_succ]
        refine wpAnyH_done (by kernel_rfl) ?_ _
        go_wp2_with fail
        go_ret
        exact ⟨by simp, HG.out.trans (Below.mono (by assumption) HG.out.size)⟩
      · have b2 : ((z : Int) == 0) = false := by rw [beq_eq_false_iff_ne]; omega
        rw [decide_eq_false hz0] at c3
        have C3 := Lib.hid c3
        clear c3 hz0 hnl0
        refine wp_region_held_drew (S := (fun w' => Below W.heap.size W w')) (by kernel_rfl) ?_ (fun hHeld => ?_)
        · (try dsimp only); (first | (with_reducible exact below_step (by assumption) hb1') | (repeat' (first | (with_reducible exact Below.refl _ _) | (with_reducible assumption) | (with_reducible exact Below.size (by assumption)) | (with_reducible refine Below.drew ?_))))
        refine wpAnyH_take (i := 0) (v := ?_) rfl (by kernel_rfl) (by kernel_rfl) (by kernel_rfl) (fun _ _ _ h => h) (Or.inl ⟨by rfl, ?_⟩) (by assumption) ?_
        rotate_left
        · (intro w hSw; (try dsimp only at hSw); go_simp; first | done | with_reducible rfl)
        try simp only [List.getElem_toArray, List.getElem_cons_zero, List.getElem_cons_succ, Act.put, List.setIfInBounds_toArray, List.set_cons_zero, List.set_cons_succ]
        refine wpAnyH_take (i := 1) (v := ?_) rfl (by kernel_rfl) (by kernel_rfl) (by kernel_rfl) (fun _ _ _ h => h) (Or.inl ⟨by rfl, ?_⟩) (by assumption) ?_
        rotate_left
        · (intro w hSw; (try dsimp only at hSw); go_simp; first | done | with_reducible rfl)
        try simp only [List.getElem_toArray, List.getElem_cons_zero, List.getElem_cons_succ, Act.put, List.setIfInBounds_toArray, List.set_cons_zero, List.set_cons_succ]
        refine wpAnyH_take (i := 2) (v := ?_) rfl (by kernel_rfl) (by kernel_rfl) (by kernel_rfl) (fun _ _ _ h => h) (Or.inl ⟨by rfl, ?_⟩) (by assumption) ?_
        rotate_left
        · (intro w hSw; (try dsimp only at hSw); go_simp; first | done | with_reducible rfl)
        try simp only [List.getElem_toArray, List.getElem_cons_zero, List.getElem_cons_succ, Act.put, List.setIfInBounds_toArray, List.set_cons_zero, List.set_cons_succ]
        refine wpAnyH_take (i := 3) (v := ?_) rfl (by kernel_rfl) (by kernel_rfl) (by kernel_rfl) (fun _ _ _ h => h) (Or.inl ⟨by rfl, ?_⟩) (by assumption) ?_
        rotate_left
        · (intro w hSw; (try dsimp only at hSw); go_simp; first | done | with_reducible rfl)
        try simp only [List.getElem_toArray, List.getElem_cons_zero, List.getElem_cons_succ, Act.put, List.setIfInBounds_toArray, List.set_cons_zero, List.set_cons_succ]
        refine wpAnyH_take (i := 4) (v := ?_) rfl (by kernel_rfl) (by kernel_rfl) (by kernel_rfl) (fun _ _ _ h => h) (Or.inl ⟨by rfl, ?_⟩) (by assumption) ?_
        rotate_left
        · (intro w hSw; (try dsimp only at hSw); go_simp; first | done | with_reducible rfl)
        try simp only [List.getElem_toArray, List.getElem_cons_zero, List.getElem_cons_succ, Act.put, List.setIfInBounds_toArray, List.set_cons_zero, List.set_cons_succ]
        refine wpAnyH_ready (rs := [5]) (by kernel_rfl) (by simp) ?_
        refine AllReadyH.cons rfl (fun K hK => ?_) AllReadyH.nil
        go_simp
        (go_at_call 24; (with_reducible refine (C1.out _ ?_).mono ?_); assumption; rintro e u1 ⟨rfl, hb1'⟩; have hq : Below W.heap.size W u1 := below_step (by assumption) hb1')
        go_wp2_with fail
        refine hK.out _ _ ?_ (fun hHeldN => ?_)
        · (try dsimp only); (first | (with_reducible exact below_step (by assumption) hb1') | (repeat' (first | (with_reducible exact Below.refl _ _) | (with_reducible assumption) | (with_reducible exact Below.size (by assumption)) | (with_reducible refine Below.drew ?_))))
        clear hK K hHeld
        try clear hb1' hq
        have hHeld := hHeldN
        clear hHeldN
        try simp only [List.getElem_toArray, List.getElem_cons_zero, List.getElem_cons_succ, Act.put, List.setIfInBounds_toArray, List.set_cons_zero, List.set_cons_succ]
        refine wpAnyH_take (i := 6) (v := ?_) rfl (by kernel_rfl) (by kernel_rfl) (by kernel_rfl) (fun _ _ _ h => h) (Or.inl ⟨by rfl, ?_⟩) (by assumption) ?_
        rotate_left
        · (intro w hSw; (try dsimp only at hSw); go_simp; first | done | with_reducible rfl)
        try simp only [List.getElem_toArray, List.getElem_cons_zero, List.getElem_cons_succ, Act.put, List.setIfInBounds_toArray, List.set_cons_zero, List.set_cons_succ]
        refine wpAnyH_take (i := 7) (v := ?_) rfl (by kernel_rfl) (by kernel_rfl) (by kernel_rfl) (fun _ _ _ h => h) (Or.inl ⟨by rfl, ?_⟩) (by assumption) ?_
        rotate_left
        · (intro w hSw; (try dsimp only at hSw); go_simp; first | done | with_reducible rfl)
        try simp only [List.getElem_toArray, List.getElem_cons_zero, List.getElem_cons_succ, Act.put, List.setIfInBounds_toArray, List.set_cons_zero, List.set_cons_succ]
        refine wpAnyH_take (i := 8) (v := ?_) rfl (by kernel_rfl) (by kernel_rfl) (by kernel_rfl) (fun _ _ _ h => h) (Or.inl ⟨by rfl, ?_⟩) (by assumption) ?_
        rotate_left
        · (intro w hSw; (try dsimp only at hSw); go_simp; first | done | with_reducible rfl)
        try simp only [List.getElem_toArray, List.getElem_cons_zero, List.getElem_cons_succ, Act.put, List.setIfInBounds_toArray, List.set_cons_zero, List.set_cons_succ]
        refine wpAnyH_take (i := 9) (v := ?_) rfl (by kernel_rfl) (by kernel_rfl) (by kernel_rfl) (fun _ _ _ h => h) (Or.inl ⟨by rfl, ?_⟩) (by assumption) ?_
        rotate_left
        · (intro w hSw; (try dsimp only at hSw); go_simp; first | done | with_reducible rfl)
        try simp only [List.getElem_toArray, List.getElem_cons_zero, List.getElem_cons_succ, Act.put, List.setIfInBounds_toArray, List.set_cons_zero, List.set_cons_succ]
        refine wpAnyH_ready (rs := [10]) (by kernel_rfl) (by simp) ?_
        refine AllReadyH.cons rfl (fun K hK => ?_) AllReadyH.nil
        go_simp
        (go_at_call 24; (with_reducible refine (C2.out _ ?_).mono ?_); assumption; rintro e u1 ⟨rfl, hb1'⟩; have hq : Below W.heap.size W u1 := below_step (by assumption) hb1')
        go_wp2_with fail
        refine hK.out _ _ ?_ (fun hHeldN => ?_)
        · (try dsimp only); (first | (with_reducible exact below_step (by assumption) hb1') | (repeat' (first | (with_reducible exact Below.refl _ _) | (with_reducible assumption) | (with_reducible exact Below.size (by assumption)) | (with_reducible refine Below.drew ?_))))
        clear hK K hHeld
        try clear hb1' hq
        have hHeld := hHeldN
        clear hHeldN
        try simp only [List.getElem_toArray, List.getElem_cons_zero, List.getElem_cons_succ, Act.put, List.setIfInBounds_toArray, List.set_cons_zero, List.set_cons_succ]
        refine wpAnyH_take (i := 11) (v := ?_) rfl (by kernel_rfl) (by kernel_rfl) (by kernel_rfl) (fun _ _ _ h => h) (Or.inl ⟨by rfl, ?_⟩) (by assumption) ?_
        rotate_left
        · (intro w hSw; (try dsimp only at hSw); go_simp; first | done | with_reducible rfl)
        try simp only [List.getElem_toArray, List.getElem_cons_zero, List.getElem_cons_succ, Act.put, List.setIfInBounds_toArray, List.set_cons_zero, List.set_cons_succ]
        refine wpAnyH_take (i := 12) (v := ?_) rfl (by kernel_rfl) (by kernel_rfl) (by kernel_rfl) (fun _ _ _ h => h) (Or.inl ⟨by rfl, ?_⟩) (by assumption) ?_
        rotate_left
        · (intro w hSw; (try dsimp only at hSw); go_simp; first | done | with_reducible rfl)
        try simp only [List.getElem_toArray, List.getElem_cons_zero, List.getElem_cons_succ, Act.put, List.setIfInBounds_toArray, List.set_cons_zero, List.set_cons_succ]
        refine wpAnyH_take (i := 13) (v := ?_) rfl (by kernel_rfl) (by kernel_rfl) (by kernel_rfl) (fun _ _ _ h => h) (Or.inl ⟨by rfl, ?_⟩) (by assumption) ?_
        rotate_left
        · (intro w hSw; (try dsimp only at hSw); go_simp; first | done | with_reducible rfl)
        try simp only [List.getElem_toArray, List.getElem_cons_zero, List.getElem_cons_succ, Act.put, List.setIfInBounds_toArray, List.set_cons_zero, List.set_cons_succ]
        refine wpAnyH_take (i := 14) (v := ?_) rfl (by kernel_rfl) (by kernel_rfl) (by kernel_rfl) (fun _ _ _ h => h) (Or.inl ⟨by rfl, ?_⟩) (by assumption) ?_
        rotate_left
        · (intro w hSw; (try dsimp only at hSw); go_simp; first | done | with_reducible rfl)
        try simp only [List.getElem_toArray, List.getElem_cons_zero, List.getElem_cons_succ, Act.put, List.setIfInBounds_toArray, List.set_cons_zero, List.set_cons_succ]
        refine wpAnyH_take (i := 16) (v := ?_) rfl (by kernel_rfl) (by kernel_rfl) (by kernel_rfl) (fun _ _ _ h => h) (Or.inl ⟨by rfl, ?_⟩) (by assumption) ?_
        rotate_left
        · (intro w hSw; (try dsimp only at hSw); go_simp; first | done | with_reducible rfl)
        try simp only [List.getElem_toArray, List.getElem_cons_zero, List.getElem_cons_succ, Act.put, List.setIfInBounds_toArray, List.set_cons_zero, List.set_cons_succ]
        refine wpAnyH_ready (rs := [15]) (by kernel_rfl) (by simp) ?_
        refine AllReadyH.cons rfl (fun K hK => ?_) AllReadyH.nil
        go_simp
        (go_at_call 24; (with_reducible refine (C3.out _ ?_).mono ?_); assumption; rintro e u1 ⟨rfl, hb1'⟩; have hq : Below W.heap.size W u1 := below_step (by assumption) hb1')
        go_wp2_with fail
        refine hK.out _ _ ?_ (fun hHeldN => ?_)
        · (try dsimp only); (first | (with_reducible exact below_step (by assumption) hb1') | (repeat' (first | (with_reducible exact Below.refl _ _) | (with_reducible assumption) | (with_reducible exact Below.size (by assumption)) | (with_reducible refine Below.drew ?_))))
        clear hK K hHeld
        try clear hb1' hq
        have hHeld := hHeldN
        clear hHeldN
        try simp only [List.getElem_toArray, List.getElem_cons_zero, List.getElem_cons_succ, Act.put, List.setIfInBounds_toArray, List.set_cons_zero, List.set_cons_succ]
        refine wpAnyH_ready (rs := [17]) (by kernel_rfl) (by simp) ?_
        refine AllReadyH.cons rfl (fun K hK => ?_) AllReadyH.nil
        go_simp
        (go_at_call 15; (with_reducible refine (set_Len _ _ _ _).mono ?_); rintro e u1 ⟨rfl, hb1'⟩; have hq : Below W.heap.size W u1 := below_step (by assumption) hb1')
        go_wp2_with fail
        refine hK.out _ _ ?_ (fun hHeldN => ?_)
        · (try dsimp only); (first | (with_reducible exact below_step (by assumption) hb1') | (repeat' (first | (with_reducible exact Below.refl _ _) | (with_reducible assumption) | (with_reducible exact Below.size (by assumption)) | (with_reducible refine Below.drew ?_))))
        clear hK K hHeld
        try clear hb1' hq
        have hHeld := hHeldN
        clear hHeldN
        try simp only [List.getElem_toArray, List.getElem_cons_zero, List.getElem_cons_succ, Act.put, List.setIfInBounds_toArray, List.set_cons_zero, List.set_cons_succ]
        refine wpAnyH_take (i := 18) (v := ?_) rfl (by kernel_rfl) (by kernel_rfl) (by kernel_rfl) (fun _ _ _ h => h) (Or.inl ⟨by rfl, ?_⟩) (by assumption) ?_
        rotate_left
        · (intro w hSw; (try dsimp only at hSw); go_simp; first | done | with_reducible rfl)
        try simp only [List.getElem_toArray, List.getElem_cons_zero, List.getElem_cons_succ, Act.put, List.setIfInBounds_toArray, List.set_cons_zero, List.set_cons_succ]
        refine wpAnyH_take (i := 19) (v := ?_) rfl (by kernel_rfl) (by kernel_rfl) (by kernel_rfl) (fun _ _ _ h => h) (Or.inl ⟨by rfl, ?_⟩) (by assumption) ?_
        rotate_left
        · (intro w hSw; (try dsimp only at hSw); go_simp; first | done | with_reducible rfl)
        try simp only [List.getElem_toArray, List.getElem_cons_zero, List.getElem_cons_succ, Act.put, List.setIfInBounds_toArray, List.set_cons_zero, List.set_cons_succ]
        refine wpAnyH_take (i := 20) (v := ?_) rfl (by kernel_rfl) (by kernel_rfl) (by kernel_rfl) (fun _ _ _ h => h) (Or.inl ⟨by rfl, ?_⟩) (by assumption) ?_
        rotate_left
        · (intro w hSw; (try dsimp only at hSw); go_simp; first | done | with_reducible rfl)
        try simp only [List.getElem_toArray, List.getElem_cons_zero, List.getElem_cons_succ, Act.put, List.setIfInBounds_toArray, List.set_cons_zero, List.set_cons_succ]
        refine wpAnyH_take (i := 21) (v := ?_) rfl (by kernel_rfl) (by kernel_rfl) (by kernel_rfl) (fun _ _ _ h => h) (Or.inl ⟨by rfl, ?_⟩) (by assumption) ?_
        rotate_left
        · (intro w hSw; (try dsimp only at hSw); go_simp; first | done | with_reducible rfl)
        try simp only [List.getElem_toArray, List.getElem_cons_zero, List.getElem_cons_succ, Act.put, List.setIfInBounds_toArray, List.set_cons_zero, List.set_cons_succ]
        refine wpAnyH_ready (rs := [22]) (by kernel_rfl) (by simp) ?_
        refine AllReadyH.cons rfl (fun K hK => ?_) AllReadyH.nil
        go_simp
        (go_at_call 29; (with_reducible refine (C4.out _ ?_).mono ?_); assumption; rintro e u1 ⟨A9, n9, c9, F9, rfl, hg9, hl9, hn9⟩; rw [← HZ.out] at hn9; subst hn9; have hb1' := hg9.below; clear hg9 hl9; have hq : Below W.heap.size W u1 := below_step (by assumption) hb1')
        go_wp2_with fail
        refine hK.out _ _ ?_ (fun hHeldN => ?_)
        · (try dsimp only); (first | (with_reducible exact below_step (by assumption) hb1') | (repeat' (first | (with_reducible exact Below.refl _ _) | (with_reducible assumption) | (with_reducible exact Below.size (by assumption)) | (with_reducible refine Below.drew ?_))))
        clear hK K hHeld
        try clear hb1' hq
        have hHeld := hHeldN
        clear hHeldN
        try simp only [List.getElem_toArray, List.getElem_cons_zero, List.getElem_cons_succ, Act.put, List.setIfInBounds_toArray, List.set_cons_zero, List.set_cons_succ]
        refine wpAnyH_ready (rs := [23]) (by kernel_rfl) (by simp) ?_
        refine AllReadyH.cons rfl (fun K hK => ?_) AllReadyH.nil
        go_simp
        (go_at_call 15; (with_reducible refine (set_Len _ _ _ _).mono ?_); rintro e u1 ⟨rfl, hb1'⟩; have hq : Below W.heap.size W u1 := below_step (by assumption) hb1')
        go_wp2_with fail
        refine hK.out _ _ ?_ (fun hHeldN => ?_)
        · (try dsimp only); (first | (with_reducible exact below_step (by assumption) hb1') | (repeat' (first | (with_reducible exact Below.refl _ _) | (with_reducible assumption) | (with_reducible exact Below.size (by assumption)) | (with_reducible refine Below.drew ?_))))
        clear hK K hHeld
        try clear hb1' hq
        have hHeld := hHeldN
        clear hHeldN
        try simp only [List.getElem_toArray, List.getElem_cons_zero, List.getElem_cons_succ, Act.put, List.setIfInBounds_toArray, List.set_cons_zero, List.set_cons_succ]
        refine wpAnyH_take (i := 24) (v := ?_) rfl (by kernel_rfl) (by kernel_rfl) (by kernel_rfl) (fun _ _ _ h => h) (Or.inl ⟨by rfl, ?_⟩) (by assumption) ?_
        rotate_left
        · (intro w hSw; (try dsimp only at hSw); go_simp; first | done | with_reducible rfl)
        try simp only [List.getElem_toArray, List.getElem_cons_zero, List.getElem_cons_succ, Act.put, List.setIfInBounds_toArray, List.set_cons_zero, List.set_cons_succ]
        refine wpAnyH_take (i := 25) (v := ?_) rfl (by kernel_rfl) (by kernel_rfl) (by kernel_rfl) (fun _ _ _ h => h) (Or.inl ⟨by rfl, ?_⟩) (by assumption) ?_
        rotate_left
        · (intro w hSw; (try dsimp only at hSw); go_simp; first | done | with_reducible rfl)
        try simp only [List.getElem_toArray, List.getElem_cons_zero, List.getElem_cons_succ, Act.put, List.setIfInBounds_toArray, List.set_cons_zero, List.set_cons_succ]
        refine wpAnyH_take (i := 26) (v := ?_) rfl (by kernel_rfl) (by kernel_rfl) (by kernel_rfl) (fun _ _ _ h => h) (Or.inl ⟨by rfl, ?_⟩) (by assumption) ?_
        rotate_left
        · (intro w hSw; (try dsimp only at hSw); go_simp; first | done | with_reducible rfl)
        try simp only [List.getElem_toArray, List.getElem_cons_zero, List.getElem_cons_succ, Act.put, List.setIfInBounds_toArray, List.set_cons_zero, List.set_cons_succ]
        refine wpAnyH_take (i := 27) (v := ?_) rfl (by kernel_rfl) (by kernel_rfl) (by kernel_rfl) (fun _ _ _ h => h) (Or.inl ⟨by rfl, ?_⟩) (by assumption) ?_
        rotate_left
        · (intro w hSw; (try dsimp only at hSw); go_simp; first | done | with_reducible rfl)
        try simp only [List.getElem_toArray, List.getElem_cons_zero, List.getElem_cons_succ, Act.put, List.setIfInBounds_toArray, List.set_cons_zero, List.set_cons_succ]
        refine wpAnyH_take (i := 28) (v := ?_) rfl (by kernel_rfl) (by kernel_rfl) (by kernel_rfl) (fun _ _ _ h => h) (Or.inl ⟨by rfl, ?_⟩) (by assumption) ?_
        rotate_left
        · (intro w hSw; (try dsimp only at hSw); go_simp; first | done | with_reducible rfl)
        try simp only [List.getElem_toArray, List.getElem_cons_zero, List.getElem_cons_succ, Act.put, List.setIfInBounds_toArray, List.set_cons_zero, List.set_cons_succ]
        refine wpAnyH_done (by kernel_rfl) ?_ _
        go_wp2_with fail
        go_ret
        exact ⟨by simp, HG.out.trans (Below.mono (by assumption) HG.out.size)⟩
    · have b1 : ((nl : Int) == 0) = false := by rw [beq_eq_false_iff_ne]; omega
      rw [decide_eq_false hnl0, Bool.false_and] at c3
      have C3 := Lib.hid c3
      clear c3 hnl0
      refine wp_region_held_drew (S := (fun w' => Below W.heap.size W w')) (by kernel_rfl) ?_ (fun hHeld => ?_)
      · (try dsimp only); (first | (with_reducible exact below_step (by assumption) hb1') | (repeat' (first | (with_reducible exact Below.refl _ _) | (with_reducible assumption) | (with_reducible exact Below.size (by assumption)) | (with_reducible refine Below.drew ?_))))
      refine wpAnyH_take (i := 0) (v := ?_) rfl (by kernel_rfl) (by kernel_rfl) (by kernel_rfl) (fun _ _ _ h => h) (Or.inl ⟨by rfl, ?_⟩) (by assumption) ?_
      rotate_left
      · (intro w hSw; (try dsimp only at hSw); go_simp; first | done | with_reducible rfl)
      try simp only [List.getElem_toArray, List.getElem_cons_zero, List.getElem_cons_succ, Act.put, List.setIfInBounds_toArray, List.set_cons_zero, List.set_cons_succ]
      refine wpAnyH_take (i := 1) (v := ?_) rfl (by kernel_rfl) (by kernel_rfl) (by kernel_rfl) (fun _ _ _ h => h) (Or.inl ⟨by rfl, ?_⟩) (by assumption) ?_
      rotate_left
      · (intro w hSw; (try dsimp only at hSw); go_simp; first | done | with_reducible rfl)
      try simp only [List.getElem_toArray, List.getElem_cons_zero, List.getElem_cons_succ, Act.put, List.setIfInBounds_toArray, List.set_cons_zero, List.set_cons_succ]
      refine wpAnyH_take (i := 2) (v := ?_) rfl (by kernel_rfl) (by kernel_rfl) (by kernel_rfl) (fun _ _ _ h => h) (Or.inl ⟨by rfl, ?_⟩) (by assumption) ?_
      rotate_left
      · (intro w hSw; (try dsimp only at hSw); go_simp; first | done | with_reducible rfl)
      try simp only [List.getElem_toArray, List.getElem_cons_zero, List.getElem_cons_succ, Act.put, List.setIfInBounds_toArray, List.set_cons_zero, List.set_cons_succ]
      refine wpAnyH_take (i := 3) (v := ?_) rfl (by kernel_rfl) (by kernel_rfl) (by kernel_rfl) (fun _ _ _ h => h) (Or.inl ⟨by rfl, ?_⟩) (by assumption) ?_
      rotate_left
      · (intro w hSw; (try dsimp only at hSw); go_simp; first | done | with_reducible rfl)
      try simp only [List.getElem_toArray, List.getElem_cons_zero, List.getElem_cons_succ, Act.put, List.setIfInBounds_toArray, List.set_cons_zero, List.set_cons_succ]
      refine wpAnyH_take (i := 4) (v := ?_) rfl (by kernel_rfl) (by kernel_rfl) (by kernel_rfl) (fun _ _ _ h => h) (Or.inl ⟨by rfl, ?_⟩) (by assumption) ?_
      rotate_left
      · (intro w hSw; (try dsimp only at hSw); go_simp; first | done | with_reducible rfl)
      try simp only [List.getElem_toArray, List.getElem_cons_zero, List.getElem_cons_succ, Act.put, List.setIfInBounds_toArray, List.set_cons_zero, List.set_cons_succ]
      refine wpAnyH_ready (rs := [5]) (by kernel_rfl) (by simp) ?_
      refine AllReadyH.cons rfl (fun K hK => ?_) AllReadyH.nil
      go_simp
      (go_at_call 24; (with_reducible refine (C1.out _ ?_).mono ?_); assumption; rintro e u1 ⟨rfl, hb1'⟩; have hq : Below W.heap.size W u1 := below_step (by assumption) hb1')
      go_wp2_with fail
      refine hK.out _ _ ?_ (fun hHeldN => ?_)
      · (try dsimp only); (first | (with_reducible exact below_step (by assumption) hb1') | (repeat' (first | (with_reducible exact Below.refl _ _) | (with_reducible assumption) | (with_reducible exact Below.size (by assumption)) | (with_reducible refine Below.drew ?_))))
      clear hK K hHeld
      try clear hb1' hq
      have hHeld := hHeldN
      clear hHeldN
      try simp only [List.getElem_toArray, List.getElem_cons_zero, List.getElem_cons_succ, Act.put, List.setIfInBounds_toArray, List.set_cons_zero, List.set_cons_succ]
      refine wpAnyH_take (i := 6) (v := ?_) rfl (by kernel_rfl) (by kernel_rfl) (by kernel_rfl) (fun _ _ _ h => h) (Or.inl ⟨by rfl, ?_⟩) (by assumption) ?_
      rotate_left
      · (intro w hSw; (try dsimp only at hSw); go_simp; first | done | with_reducible rfl)
      try simp only [List.getElem_toArray, List.getElem_cons_zero, List.getElem_cons_succ, Act.put, List.setIfInBounds_toArray, List.set_cons_zero, List.set_cons_succ]
      refine wpAnyH_take (i := 7) (v := ?_) rfl (by kernel_rfl) (by kernel_rfl) (by kernel_rfl) (fun _ _ _ h => h) (Or.inl ⟨by rfl, ?_⟩) (by assumption) ?_
      rotate_left
      · (intro w hSw; (try dsimp only at hSw); go_simp; first | done | with_reducible rfl)
      try simp only [List.getElem_toArray, List.getElem_cons_zero, List.getElem_cons_succ, Act.put, List.setIfInBounds_toArray, List.set_cons_zero, List.set_cons_succ]
      refine wpAnyH_take (i := 8) (v := ?_) rfl (by kernel_rfl) (by kernel_rfl) (by kernel_rfl) (fun _ _ _ h => h) (Or.inl ⟨by rfl, ?_⟩) (by assumption) ?_
      rotate_left
      · (intro w hSw; (try dsimp only at hSw); go_simp; first | done | with_reducible rfl)
      try simp only [List.getElem_toArray, List.getElem_cons_zero, List.getElem_cons_succ, Act.put, List.setIfInBounds_toArray, List.set_cons_zero, List.set_cons_succ]
      refine wpAnyH_take (i := 9) (v := ?_) rfl (by kernel_rfl) (by kernel_rfl) (by kernel_rfl) (fun _ _ _ h => h) (Or.inl ⟨by rfl, ?_⟩) (by assumption) ?_
      rotate_left
      · (intro w hSw; (try dsimp only at hSw); go_simp; first | done | with_reducible rfl)
      try simp only [List.getElem_toArray, List.getElem_cons_zero, List.getElem_cons_succ, Act.put, List.setIfInBounds_toArray, List.set_cons_zero, List.set_cons_succ]
      refine wpAnyH_ready (rs := [10]) (by kernel_rfl) (by simp) ?_
      refine AllReadyH.cons rfl (fun K hK => ?_) AllReadyH.nil
      go_simp
      (go_at_call 24; (with_reducible refine (C2.out _ ?_).mono ?_); assumption; rintro e u1 ⟨rfl, hb1'⟩; have hq : Below W.heap.size W u1 := below_step (by assumption) hb1')
      go_wp2_with fail
      refine hK.out _ _ ?_ (fun hHeldN => ?_)
      · (try dsimp only); (first | (with_reducible exact below_step (by assumption) hb1') | (repeat' (first | (with_reducible exact Below.refl _ _) | (with_reducible assumption) | (with_reducible exact Below.size (by assumption)) | (with_reducible refine Below.drew ?_))))
      clear hK K hHeld
      try clear hb1' hq
      have hHeld := hHeldN
      clear hHeldN
      try simp only [List.getElem_toArray, List.getElem_cons_zero, List.getElem_cons_succ, Act.put, List.setIfInBounds_toArray, List.set_cons_zero, List.set_cons_succ]
      refine wpAnyH_take (i := 11) (v := ?_) rfl (by kernel_rfl) (by kernel_rfl) (by kernel_rfl) (fun _ _ _ h => h) (Or.inl ⟨by rfl, ?_⟩) (by assumption) ?_
      rotate_left
      · (intro w hSw; (try dsimp only at hSw); go_simp; first | done | with_reducible rfl)
      try simp only [List.getElem_toArray, List.getElem_cons_zero, List.getElem_cons_succ, Act.put, List.setIfInBounds_toArray, List.set_cons_zero, List.set_cons_succ]
      refine wpAnyH_take (i := 12) (v := ?_) rfl (by kernel_rfl) (by kernel_rfl) (by kernel_rfl) (fun _ _ _ h => h) (Or.inl ⟨by rfl, ?_⟩) (by assumption) ?_
      rotate_left
      · (intro w hSw; (try dsimp only at hSw); go_simp; first | done | with_reducible rfl)
      try simp only [List.getElem_toArray, List.getElem_cons_zero, List.getElem_cons_succ, Act.put, List.setIfInBounds_toArray, List.set_cons_zero, List.set_cons_succ]
      refine wpAnyH_take (i := 13) (v := ?_) rfl (by kernel_rfl) (by kernel_rfl) (by kernel_rfl) (fun _ _ _ h => h) (Or.inl ⟨by rfl, ?_⟩) (by assumption) ?_
      rotate_left
      · (intro w hSw; (try dsimp only at hSw); go_simp; first | done | with_reducible rfl)
      try simp only [List.getElem_toArray, List.getElem_cons_zero, List.getElem_cons_succ, Act.put, List.setIfInBounds_toArray, List.set_cons_zero, List.set_cons_succ]
      refine wpAnyH_take (i := 14) (v := ?_) rfl (by kernel_rfl) (by kernel_rfl) (by kernel_rfl) (fun _ _ _ h => h) (Or.inl ⟨by rfl, ?_⟩) (by assumption) ?_
      rotate_left
      · (intro w hSw; (try dsimp only at hSw); go_simp; first | done | with_reducible rfl)
      try simp only [List.getElem_toArray, List.getElem_cons_zero, List.getElem_cons_succ, Act.put, List.setIfInBounds_toArray, List.set_cons_zero, List.set_cons_succ]
      refine wpAnyH_take (i := 16) (v := ?_) rfl (by kernel_rfl) (by kernel_rfl) (by kernel_rfl) (fun _ _ _ h => h) (Or.inl ⟨by rfl, ?_⟩) (by assumption) ?_
      rotate_left
      · (intro w hSw; (try dsimp only at hSw); go_simp; first | done | with_reducible rfl)
      try simp only [List.getElem_toArray, List.getElem_cons_zero, List.getElem_cons_succ, Act.put, List.setIfInBounds_toArray, List.set_cons_zero, List.set_cons_succ]
      refine wpAnyH_ready (rs := [15]) (by kernel_rfl) (by simp) ?_
      refine AllReadyH.cons rfl (fun K hK => ?_) AllReadyH.nil
      go_simp
      (go_at_call 24; (with_reducible refine (C3.out _ ?_).mono ?_); assumption; rintro e u1 ⟨rfl, hb1'⟩; have hq : Below W.heap.size W u1 := below_step (by assumption) hb1')
      go_wp2_with fail
      refine hK.out _ _ ?_ (fun hHeldN => ?_)
      · (try dsimp only); (first | (with_reducible exact below_step (by assumption) hb1') | (repeat' (first | (with_reducible exact Below.refl _ _) | (with_reducible assumption) | (with_reducible exact Below.size (by assumption)) | (with_reducible refine Below.drew ?_))))
      clear hK K hHeld
      try clear hb1' hq
      have hHeld := hHeldN
      clear hHeldN
      try simp only [List.getElem_toArray, List.getElem_cons_zero, List.getElem_cons_succ, Act.put, List.setIfInBounds_toArray, List.set_cons_zero, List.set_cons_succ]
      refine wpAnyH_ready (rs := [17]) (by kernel_rfl) (by simp) ?_
      refine AllReadyH.cons rfl (fun K hK => ?_) AllReadyH.nil
      go_simp
      (go_at_call 15; (with_reducible refine (set_Len _ _ _ _).mono ?_); rintro e u1 ⟨rfl, hb1'⟩; have hq : Below W.heap.size W u1 := below_step (by assumption) hb1')
      go_wp2_with fail
      refine hK.out _ _ ?_ (fun hHeldN => ?_)
      · (try dsimp only); (first | (with_reducible exact below_step (by assumption) hb1') | (repeat' (first | (with_reducible exact Below.refl _ _) | (with_reducible assumption) | (with_reducible exact Below.size (by assumption)) | (with_reducible refine Below.drew ?_))))
      clear hK K hHeld
      try clear hb1' hq
      have hHeld := hHeldN
      clear hHeldN
      try simp only [List.getElem_toArray, List.getElem_cons_zero, List.getElem_cons_succ, Act.put, List.setIfInBounds_toArray, List.set_cons_zero, List.set_cons_succ]
      refine wpAnyH_take (i := 18) (v := ?_) rfl (by kernel_rfl) (by kernel_rfl) (by kernel_rfl) (fun _ _ _ h => h) (Or.inl ⟨by rfl, ?_⟩) (by assumption) ?_
      rotate_left
      · (intro w hSw; (try dsimp only at hSw); go_simp; first | done | with_reducible rfl)
      try simp only [List.getElem_toArray, List.getElem_cons_zero, List.getElem_cons_succ, Act.put, List.setIfInBounds_toArray, List.set_cons_zero, List.set_cons_succ]
      refine wpAnyH_take (i := 19) (v := ?_) rfl (by kernel_rfl) (by kernel_rfl) (by kernel_rfl) (fun _ _ _ h => h) (Or.inl ⟨by rfl, ?_⟩) (by assumption) ?_
      rotate_left
      · (intro w hSw; (try dsimp only at hSw); go_simp; first | done | with_reducible rfl)
      try simp only [List.getElem_toArray, List.getElem_cons_zero, List.getElem_cons_succ, Act.put, List.setIfInBounds_toArray, List.set_cons_zero, List.set_cons_succ]
      refine wpAnyH_take (i := 20) (v := undef) rfl (by kernel_rfl) (by kernel_rfl) (by kernel_rfl) (fun _ _ _ h => h) (Or.inr ⟨by rfl, rfl⟩) (by assumption) ?_
      try simp only [List.getElem_toArray, List.getElem_cons_zero, List.getElem_cons_succ, Act.put, List.setIfInBounds_toArray, List.set_cons_zero, List.set_cons_succ]
      refine wpAnyH_take (i := 21) (v := undef) rfl (by kernel_rfl) (by kernel_rfl) (by kernel_rfl) (fun _ _ _ h => h) (Or.inr ⟨by rfl, rfl⟩) (by assumption) ?_
      try simp only [List.getElem_toArray, List.getElem_cons_zero, List.getElem_cons_succ, Act.put, List.setIfInBounds_toArray, List.set_cons_zero, List.set_cons_succ]
      refine wpAnyH_take (i := 22) (v := undef) rfl (by kernel_rfl) (by kernel_rfl) (by kernel_rfl) (fun _ _ _ h => h) (Or.inr ⟨by rfl, rfl⟩) (by assumption) ?_
      try simp only [List.getElem_toArray, List.getElem_cons_zero, List.getElem_cons_succ, Act.put, List.setIfInBounds_toArray, List.set_cons_zero, List.set_cons_succ]
      refine wpAnyH_take (i := 23) (v := undef) rfl (by kernel_rfl) (by kernel_rfl) (by kernel_rfl) (fun _ _ _ h => h) (Or.inr ⟨by rfl, rfl⟩) (by assumption) ?_
      try simp only [List.getElem_toArray, List.getElem_cons_zero, List.getElem_cons_succ, Act.put, List.setIfInBounds_toArray, List.set_cons_zero, List.set_cons_succ]
      refine wpAnyH_take (i := 24) (v := undef) rfl (by kernel_rfl) (by kernel_rfl) (by kernel_rfl) (fun _ _ _ h => h) (Or.inr ⟨by rfl, rfl⟩) (by assumption) ?_
      try simp only [List.getElem_toArray, List.getElem_cons_zero, List.getElem_cons_succ, Act.put, List.setIfInBounds_toArray, List.set_cons_zero, List.set_cons_succ]
      refine wpAnyH_take (i := 25) (v := ?_) rfl (by kernel_rfl) (by kernel_rfl) (by kernel_rfl) (fun _ _ _ h => h) (Or.inl ⟨by rfl, ?_⟩) (by assumption) ?_
      rotate_left
      · (intro w hSw; (try dsimp only at hSw); go_simp; first | done | with_reducible rfl)
      try simp only [List.getElem_toArray, List.getElem_cons_zero, List.getElem_cons_succ, Act.put, List.setIfInBounds_toArray, List.set_cons_zero, List.set_cons_succ]
      refine wpAnyH_take (i := 26) (v := ?_) rfl (by kernel_rfl) (by kernel_rfl) (by kernel_rfl) (fun _ _ _ h => h) (Or.inl ⟨by rfl, ?_⟩) (by assumption) ?_
      rotate_left
      · (intro w hSw; (try dsimp only at hSw); go_simp; first | done | with_reducible rfl)
      try simp only [List.getElem_toArray, List.getElem_cons_zero, List.getElem_cons_succ, Act.put, List.setIfInBounds_toArray, List.set_cons_zero, List.set_cons_succ]
      refine wpAnyH_take (i := 27) (v := ?_) rfl (by kernel_rfl) (by kernel_rfl) (by kernel_rfl) (fun _ _ _ h => h) (Or.inl ⟨by rfl, ?_⟩) (by assumption) ?_
      rotate_left
      · (intro w hSw; (try dsimp only at hSw); go_simp; first | done | with_reducible rfl)
      try simp only [List.getElem_toArray, List.getElem_cons_zero, List.getElem_cons_succ, Act.put, List.setIfInBounds_toArray, List.set_cons_zero, List.set_cons_succ]
      refine wpAnyH_take (i := 28) (v := ?_) rfl (by kernel_rfl) (by kernel_rfl) (by kernel_rfl) (fun _ _ _ h => h) (Or.inl ⟨by rfl, ?_⟩) (by assumption) ?_
      rotate_left
      · (intro w hSw; (try dsimp only at hSw); go_simp; first | done | with_reducible rfl)
      try simp only [List.getElem_toArray, List.getElem_cons_zero, List.getElem_cons_succ, Act.put, List.setIfInBounds_toArray, List.set_cons_zero, List.set_cons_succ]
      refine wpAnyH_done (by kernel_rfl) ?_ _
      go_wp2_with fail
      go_ret
      exact ⟨by simp, HG.out.trans (Below.mono (by assumption) HG.out.size)⟩
  · obtain ⟨q, r, b, off, hx1, rfl, hFb, hf, c1, c2⟩ := pfx_at HL6.out hlt
    have d1 := (hB.cell (p := ⟨b, off + k * 2, none⟩) (HF6.out b hFb)).trans c1
    have d2 := (hB.cell (p := ⟨b, off + k * 2 + 1, none⟩) (HF6.out b hFb)).trans c2
    have hk0 : (0 : Int) ≤ (k : Int) := by omega
    have hk1 : (k : Int) < (no : Int) := by omega
    have he := HM.out.each ⟨q, r⟩ (by rw [← HO.out]; exact List.mem_of_getElem? hx1)
    rw [← HNN.out, ← HD.out] at he
    have hbW : Below W.heap.size W wr := HBW.out
    have cs := fun w' (h : Below W.heap.size W w') => set_Has w' _ As ns cs s q r ((listR_ok pfxR_ok).below Ls.out h HF.out) (HF.out.below h) HSS.out.1 hf (by omega)
    have ct := fun w' (h : Below W.heap.size W w') => set_Has w' _ At nt ct t q r ((listR_ok pfxR_ok).below Lt.out h HF.out) (HF.out.below h) HSS.out.2 hf (by omega)
    have ca := fun w' (h : Below W.heap.size W w') => set_Has w' _ Aa na ca N q r ((listR_ok pfxR_ok).below La.out h HF.out) (HF.out.below h) (by rw [HNN.out]; exact HM.out.sa) hf (by omega)
    have cl := fun w' (h : Below W.heap.size W w') => set_Has w' _ Al nl cl D q r ((listR_ok pfxR_ok).below Ll.out h HF.out) (HF.out.below h) (by rw [HD.out]; exact HM.out.sl) hf (by omega)
    obtain ⟨he1, he2, he3⟩ := he
    rw [he2] at ca
    rw [he3] at cl
    clear he2 he3
    generalize memP s ⟨q, r⟩ = u at *
    generalize memP t ⟨q, r⟩ = v at *
    have Cs := Lib.hid cs
    have Ct := Lib.hid ct
    have Ca := Lib.hid ca
    have Cl := Lib.hid cl
    have hba : Below wr.heap.size wr (wr.alloc (.cells #[.int .u32 q, .int .i64 r] 35)) := (Below.refl _ _).alloc (Nat.le_refl _) _
    have HBA := Lib.hid (below_step hbW hba)
    have HBB := Lib.hid (below_step hB hba)
    have HNW := Lib.hid (Blk.new wr 35 #[.int .u32 q, .int .i64 r])
    clear cs ct ca cl hx1 c1 c2 hf hba hbW hB
    go_upto_region 14 with fail
    refine wp_gen (fun W7 => Below W.heap.size W W7 ∧ Below w6.heap.size w6 W7 ∧ Blk W7 wr.heap.size 35 #[.int .u32 q, .int .i64 r]) ⟨HBA.out, HBB.out, HNW.out⟩ ?_
    rintro W7 ⟨hWW, hww, hkp⟩
    have HB7 := Lib.hid hww
    have hW7 := Lib.hid hWW
    have y1 : ∀ w', Below W7.heap.size W7 w' → w'.cell? ⟨wr.heap.size, 0, none⟩ = some (.int .u32 q) := fun w' h => (hkp.below h hkp.lt).cell 0
    have y2 : ∀ w', Below W7.heap.size W7 w' → w'.cell? ⟨wr.heap.size, 1, none⟩ = some (.int .i64 r) := fun w' h => (hkp.below h hkp.lt).cell 1
    have z1 : ∀ w', Below W7.heap.size W7 w' → w'.cell? ⟨w2.heap.size, 0, none⟩ = some (.slice As ns cs) := fun w' h => xs w' (below_step hW7.out h)
    have z2 : ∀ w', Below W7.heap.size W7 w' → w'.cell? ⟨w2.heap.size + 1, 0, none⟩ = some (.slice At nt ct) := fun w' h => xt w' (below_step hW7.out h)
    have z3 : ∀ w', Below W7.heap.size W7 w' → w'.cell? ⟨w4.heap.size, 0, none⟩ = some (.slice Aa na ca) := fun w' h => xa w' (below_step hW7.out h)
    have z4 : ∀ w', Below W7.heap.size W7 w' → w'.cell? ⟨w5.heap.size, 0, none⟩ = some (.slice Al nl cl) := fun w' h => xl w' (below_step hW7.out h)
    have hV : Below W7.heap.size W7 W7 := Below.refl _ _
    have HBW7 := hW7
    clear hWW hww hkp xs xt xo xa xl d1 d2 HBW HBA HBB HNW
    cases u <;> cases v
    · simp at he1
    all_goals
      clear he1
      go_wp2_with (first
        | (go_at_call 14; (with_reducible refine (Cs.out _ (below_step HBW7.out hV)).mono ?_); rintro e u1 ⟨rfl, hb1'⟩; replace hV := below_step hV hb1'; clear hb1')
        | (go_at_call 14; (with_reducible refine (Ct.out _ (below_step HBW7.out hV)).mono ?_); rintro e u1 ⟨rfl, hb1'⟩; replace hV := below_step hV hb1'; clear hb1')
        | (go_at_call 14; (with_reducible refine (Ca.out _ (below_step HBW7.out hV)).mono ?_); rintro e u1 ⟨rfl, hb1'⟩; replace hV := below_step hV hb1'; clear hb1')
        | (go_at_call 14; (with_reducible refine (Cl.out _ (below_step HBW7.out hV)).mono ?_); rintro e u1 ⟨rfl, hb1'⟩; replace hV := below_step hV hb1'; clear hb1')
        | fail)
      go_roundw
      case rel => exact ⟨k + 1, by omega, by go_num, below_step HB7.out hV⟩
      case measure => simp [intOf]; omega
end Go.Proofs.Ythiodgnklfbmjaa
