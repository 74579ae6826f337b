/- The law PsetOrders. -/
import Derived.Test.YthiodgnklfbmjaaPsL
namespace Go.Proofs.Ythiodgnklfbmjaa
open Go.RowKit
set_option linter.unusedVariables false

/-- sets that lie in blocks of the call's own, and what they hold -/
structure LSt (w : World) (F0 : Nat → Prop) (w' : World) (F : Nat → Prop) (fs : List (Nat × Value × List Pfx)) : Prop where
  grew : Grew w F0 w' F
  fact : ∀ x ∈ fs, Blk w' x.1 26 #[x.2.1] ∧ listR 2 pfxR w' F [x.2.1] x.2.2
theorem LSt.go {w w' w2 : World} {F0 F F2 : Nat → Prop} {fs : List (Nat × Value × List Pfx)} (h : LSt w F0 w' F fs) (hg : Grew w' F w2 F2) : LSt w F0 w2 F2 fs :=
  ⟨h.grew.trans hg, fun x hx => ⟨(h.fact x hx).1.below hg.below (h.fact x hx).1.lt, (listR_ok pfxR_ok).grew (h.fact x hx).2 hg h.grew.lt⟩⟩
theorem LSt.step {w w' w2 : World} {F0 F : Nat → Prop} {fs : List (Nat × Value × List Pfx)} (h : LSt w F0 w' F fs) (hb : Below w'.heap.size w' w2) : LSt w F0 w2 F fs :=
  h.go ⟨hb, fun _ h => h, fun _ h => .inl h, h.grew.lt.mono hb.size⟩
theorem LSt.new {w w' : World} {F0 F : Nat → Prop} {fs : List (Nat × Value × List Pfx)} {v : Value} {xs : List Pfx} (h : LSt w F0 w' F fs) (hl : listR 2 pfxR w' F [v] xs) : LSt w F0 (w'.alloc (.cells #[v] 26)) F ((w'.heap.size, v, xs) :: fs) := by
  have h2 := h.step ((Below.refl w'.heap.size w').alloc (Nat.le_refl _) (.cells #[v] 26))
  refine ⟨h2.grew, fun x hx => ?_⟩
  rcases List.mem_cons.1 hx with rfl | hx
  · exact ⟨Blk.new _ _ _, (listR_ok pfxR_ok).below hl ((Below.refl w'.heap.size w').alloc (Nat.le_refl _) _) h.grew.lt⟩
  · exact h2.fact x hx
theorem LSt.new2 {w w' : World} {F0 F : Nat → Prop} {fs : List (Nat × Value × List Pfx)} {v u : Value} {xs ys : List Pfx} (h : LSt w F0 w' F fs) (hl : listR 2 pfxR w' F [v] xs) (hu : listR 2 pfxR w' F [u] ys) : LSt w F0 ((w'.alloc (.cells #[v] 26)).alloc (.cells #[u] 26)) F ((w'.heap.size + 1, u, ys) :: (w'.heap.size, v, xs) :: fs) := by
  have h2 := h.new hl
  have h3 := h2.new ((listR_ok pfxR_ok).below hu ((Below.refl w'.heap.size w').alloc (Nat.le_refl _) (.cells #[v] 26)) h.grew.lt)
  simpa using h3

theorem set_ListF (w : World) (F : Nat → Prop) (A : Option Addr) (n c : Nat) (xs : List Pfx) (hl : listR 2 pfxR w F [.slice A n c] xs) (hF : InF F w) (hn : n ≤ 1073741824) :
    Calls Try.prog 12 #[.agg #[.slice A n c]] w fun e w' => ∃ A' c' F', e = .returned (.slice A' n c') ∧ listR 2 pfxR w' F' [.slice A' n c'] xs ∧ InF F' w' ∧ Below w.heap.size w w' := by
  have hx := hl.len.1
  subst hx
  refine (set_List w F A _ c xs hl hF hn).mono ?_
  rintro e w' ⟨v, rfl, ho, hb⟩
  obtain ⟨A', c', rfl⟩ := ho.form
  refine ⟨A', c', _, rfl, ho.freeze pfxR_ok, fun b hb' => ?_, hb⟩
  rcases hb' with h | h
  · have := hF b h; have := hb.size; omega
  · exact (ho.lt b h).2
set_option maxRecDepth 100000 in
set_option maxHeartbeats 8000000 in
theorem law_PsetOrders (w : World) (F : Nat → Prop) (A : Option Addr) (n c : Nat) (a : List Pfx) (B : Option Addr) (m d : Nat) (b : List Pfx) (C : Option Addr) (k g : Nat) (cs : List Pfx) (hl : listR 2 pfxR w F [.slice A n c] a) (hu : listR 2 pfxR w F [.slice B m d] b) (hv : listR 2 pfxR w F [.slice C k g] cs) (hF : InF F w) :
    Calls Try.prog 5 #[.slice A n c, .slice B m d, .slice C k g] w fun e w' => e = .returned (.bool true) ∧ Below w.heap.size w w' := by
  have HL := Lib.hid hl
  have HU := Lib.hid hu
  have HV := Lib.hid hv
  clear hl hu hv
  go_enter Try.func5, Try.ntmps5
  go_wp2_with fail
  refine (law_head w).mono ?_
  rintro e w1 ⟨rfl, hB1⟩
  have HS : Hid (LSt w F w1 F []) := Lib.hid ⟨⟨hB1, fun _ h => h, fun _ h => .inl h, hF.below hB1⟩, by simp⟩
  have HB1 := Lib.hid hB1
  clear hB1
  by_cases h1 : 40 < n
  · have d1 : decide ((n : Int) > 40) = true := decide_eq_true (by omega)
    go_wp2_with fail
    go_ret
    exact ⟨rfl, HB1.out⟩
  by_cases h2 : 40 < m
  · have d1 : decide ((n : Int) > 40) = false := decide_eq_false (by omega)
    have d2 : decide ((m : Int) > 40) = true := decide_eq_true (by omega)
    go_wp2_with fail
    go_ret
    exact ⟨rfl, HB1.out⟩
  by_cases h3 : 40 < k
  · have d1 : decide ((n : Int) > 40) = false := decide_eq_false (by omega)
    have d2 : decide ((m : Int) > 40) = false := decide_eq_false (by omega)
    have d3 : decide ((k : Int) > 40) = true := decide_eq_true (by omega)
    go_wp2_with fail
    go_ret
    exact ⟨rfl, HB1.out⟩
  have d1 : decide ((n : Int) > 40) = false := decide_eq_false (by omega)
  have d2 : decide ((m : Int) > 40) = false := decide_eq_false (by omega)
  have d3 : decide ((k : Int) > 40) = false := decide_eq_false (by omega)
  go_wp2_with fail
  refine (law_make2 w1 F A n c a B m d b ((listR_ok pfxR_ok).below HL.out HB1.out hF) ((listR_ok pfxR_ok).below HU.out HB1.out hF) (hF.below HB1.out) (by omega) (by omega)).mono ?_
  rintro e w2 ⟨A2, n2, c2, B2, m2, e2, F2, rfl, hg2, hx2, hy2⟩
  replace HS := Lib.hid ((HS.out.go hg2).new2 hx2 hy2)
  clear hg2 hx2 hy2
  go_wp2_with fail
  refine (law_make2 _ F2 C k g cs none 0 0 [] ((listR_ok pfxR_ok).grew HV.out HS.out.grew hF) listR.nil HS.out.grew.lt (by omega) (by omega)).mono ?_
  rintro e w4 ⟨A4, n4, c4, B4, m4, e4, F4, rfl, hg4, hx4, hy4⟩
  replace HS := Lib.hid ((HS.out.go hg4).new2 hx4 hy4)
  clear hg4 hx4 hy4
  obtain ⟨s, hs⟩ : ∃ s, s = ofL (a.filter Pfx.good) := ⟨_, rfl⟩
  obtain ⟨t, ht⟩ : ∃ t, t = ofL (b.filter Pfx.good) := ⟨_, rfl⟩
  obtain ⟨u, hu⟩ : ∃ u, u = ofL (cs.filter Pfx.good) := ⟨_, rfl⟩
  rw [← hs, ← ht, ← hu] at HS
  have hsl : s.length ≤ 4096 := by rw [hs]; exact (ofL_sorted _).2
  have htl : t.length ≤ 4096 := by rw [ht]; exact (ofL_sorted _).2
  clear hs ht hu
  go_upto_region 7 with fail
  refine wp_gen (fun W => LSt w F W F4 _) HS.out ?_
  rintro W hW
  replace HS := Lib.hid hW
  have hall := hW.fact
  simp only [List.forall_mem_cons] at hall
  obtain ⟨⟨_, _⟩, ⟨k3, l3⟩, ⟨k2, l2⟩, ⟨k1, l1⟩, _⟩ := hall
  obtain rfl : n2 = s.length := l1.len.1
  obtain rfl : m2 = t.length := l2.len.1
  obtain rfl : n4 = u.length := l3.len.1
  have L1 := Lib.hid l1
  have L2 := Lib.hid l2
  have L3 := Lib.hid l3
  have HF := Lib.hid hW.grew.lt
  have x1 : ∀ w', Below W.heap.size W w' → w'.cell? ⟨_, 0, none⟩ = some (.slice A2 s.length c2) := fun w' h => (k1.below h k1.lt).cell 0
  have x2 : ∀ w', Below W.heap.size W w' → w'.cell? ⟨_, 0, none⟩ = some (.slice B2 t.length e2) := fun w' h => (k2.below h k2.lt).cell 0
  have x3 : ∀ w', Below W.heap.size W w' → w'.cell? ⟨_, 0, none⟩ = some (.slice A4 u.length c4) := fun w' h => (k3.below h k3.lt).cell 0
  have cst := fun w' (h : Below W.heap.size W w') => set_Cmp w' F4 A2 B2 s.length c2 t.length e2 s t ((listR_ok pfxR_ok).below L1.out h HF.out) ((listR_ok pfxR_ok).below L2.out h HF.out) (HF.out.below h)
  have cts := fun w' (h : Below W.heap.size W w') => set_Cmp w' F4 B2 A2 t.length e2 s.length c2 t s ((listR_ok pfxR_ok).below L2.out h HF.out) ((listR_ok pfxR_ok).below L1.out h HF.out) (HF.out.below h)
  have ctu := fun w' (h : Below W.heap.size W w') => set_Cmp w' F4 B2 A4 t.length e2 u.length c4 t u ((listR_ok pfxR_ok).below L2.out h HF.out) ((listR_ok pfxR_ok).below L3.out h HF.out) (HF.out.below h)
  have csu := fun w' (h : Below W.heap.size W w') => set_Cmp w' F4 A2 A4 s.length c2 u.length c4 s u ((listR_ok pfxR_ok).below L1.out h HF.out) ((listR_ok pfxR_ok).below L3.out h HF.out) (HF.out.below h)
  have csa := fun w' (h : Below W.heap.size W w') => set_Same w' F4 A2 B2 s.length c2 t.length e2 s t ((listR_ok pfxR_ok).below L1.out h HF.out) ((listR_ok pfxR_ok).below L2.out h HF.out) (HF.out.below h)
  obtain ⟨z, hz⟩ : ∃ z, z = cmpPs s t := ⟨_, rfl⟩
  rw [← cmpPs_zero, ← hz] at csa
  obtain ⟨y, hy⟩ : ∃ y, y = cmpPs t s := ⟨_, rfl⟩
  rw [← hy] at cts
  have hzy : z = -y := by rw [hz, hy, cmpPs_neg s t]
  have hyb := cmpPs_bounds t s
  rw [← hy] at hyb
  rw [← hz] at cst
  have hzb := cmpPs_bounds s t
  rw [← hz] at hzb
  have Hz := Lib.hid hz
  have Hst := Lib.hid cst
  have Hts := Lib.hid cts
  have Htu := Lib.hid ctu
  have Hsu := Lib.hid csu
  have Hsa := Lib.hid csa
  have HK1 := Lib.hid k1
  have HK2 := Lib.hid k2
  have hWW : Below W.heap.size W W := Below.refl _ _
  clear hy hz cst cts ctu csu csa k1 k2 k3 l1 l2 l3 hW
  have hzc : z = -1 ∨ z = 0 ∨ z = 1 := by omega
  go_cut [57] (fun o wx => o = .bool false ∧ Below W.heap.size W wx)
  case first =>
    as_aux_lemma =>
    clear d1 d2 d3 h1 h2 h3 hsl htl HL HU HV HB1 hzc
    obtain ⟨hz1, hz2⟩ := hzb
    obtain ⟨hy1, hy2⟩ := hyb
    subst hzy
    have hw : IntKind.i64.wrap (-y) = -y := by rw [IntKind.wrap_i64]; omega
    clear hz1 hz2
    all_goals
      (go_region_held3 (fun w' => Below W.heap.size W w') (first | (with_reducible exact below_step (by assumption) hb1') | (repeat' (first | (with_reducible exact Below.refl _ _) | (with_reducible assumption) | (with_reducible exact Below.size (by assumption)) | (with_reducible refine Below.drew ?_))))
        (first
          | (go_at_call 23; (with_reducible refine (Hst.out _ ?_).mono ?_); assumption; rintro e u1 ⟨rfl, hb1'⟩; have hq : Below W.heap.size W u1 := below_step (by assumption) hb1')
          | (go_at_call 23; (with_reducible refine (Hts.out _ ?_).mono ?_); assumption; rintro e u1 ⟨rfl, hb1'⟩; have hq : Below W.heap.size W u1 := below_step (by assumption) hb1')
          | (go_at_call 24; (with_reducible refine (Hsa.out _ ?_).mono ?_); assumption; rintro e u1 ⟨rfl, hb1'⟩; have hq : Below W.heap.size W u1 := below_step (by assumption) hb1')
          | fail))
    all_goals (go_wp2_with fail)
    all_goals go_meet
    all_goals exact ⟨rfl, by assumption⟩
  case rest =>
    clear hWW
    obtain ⟨rfl, hWW⟩ := hcut
    go_upto_region 9 with fail
    go_cut [73] (fun o wx => o = .bool false ∧ Below W.heap.size W wx)
    case first =>
      as_aux_lemma =>
      clear d1 d2 d3 h1 h2 h3 hsl htl HL HU HV HB1 hzc hzy hyb hzb
      by_cases q1 : z < 0
      · have r1 : decide (z < 0) = true := decide_eq_true q1
        obtain ⟨v, hv⟩ : ∃ v, v = cmpPs t u := ⟨_, rfl⟩
        have htu := Htu.out
        rw [← hv] at htu
        replace Htu := Lib.hid htu
        clear htu
        by_cases q2 : v < 0
        · have r2 : decide (v < 0) = true := decide_eq_true q2
          obtain ⟨x, hx⟩ : ∃ x, x = cmpPs s u := ⟨_, rfl⟩
          have hsu := Hsu.out
          rw [← hx] at hsu
          replace Hsu := Lib.hid hsu
          have q3 : x < 0 := by rw [hx]; exact cmpPs_trans (by rw [← Hz.out]; exact q1) (by rw [← hv]; exact q2)
          have r3 : decide (x ≥ 0) = false := decide_eq_false (by omega)
          clear hsu hx hv q1 q2
          go_wp2_with (first | (go_at_call 23; (with_reducible refine (Hst.out _ ?_).mono ?_); assumption; rintro e u1 ⟨rfl, hb1'⟩; replace hWW := below_step hWW hb1'; clear hb1') | (go_at_call 23; (with_reducible refine (Htu.out _ ?_).mono ?_); assumption; rintro e u1 ⟨rfl, hb1'⟩; replace hWW := below_step hWW hb1'; clear hb1') | (go_at_call 23; (with_reducible refine (Hsu.out _ ?_).mono ?_); assumption; rintro e u1 ⟨rfl, hb1'⟩; replace hWW := below_step hWW hb1'; clear hb1'))
          go_meet
          exact ⟨rfl, hWW⟩
        · have r2 : decide (v < 0) = false := decide_eq_false q2
          clear hv q1 q2
          go_wp2_with (first | (go_at_call 23; (with_reducible refine (Hst.out _ ?_).mono ?_); assumption; rintro e u1 ⟨rfl, hb1'⟩; replace hWW := below_step hWW hb1'; clear hb1') | (go_at_call 23; (with_reducible refine (Htu.out _ ?_).mono ?_); assumption; rintro e u1 ⟨rfl, hb1'⟩; replace hWW := below_step hWW hb1'; clear hb1'))
          go_meet
          exact ⟨rfl, hWW⟩
      · have r1 : decide (z < 0) = false := decide_eq_false q1
        clear q1
        go_wp2_with (first | (go_at_call 23; (with_reducible refine (Hst.out _ ?_).mono ?_); assumption; rintro e u1 ⟨rfl, hb1'⟩; replace hWW := below_step hWW hb1'; clear hb1'))
        go_meet
        exact ⟨rfl, hWW⟩
    case rest =>
      clear hWW
      obtain ⟨rfl, hWW⟩ := hcut
      go_upto_region 11 with fail
      have lx := fun w' (h : Below W.heap.size W w') => set_ListF w' F4 A2 s.length c2 s ((listR_ok pfxR_ok).below L1.out h HF.out) (HF.out.below h) (by omega)
      have ly := fun w' (h : Below W.heap.size W w') => set_ListF w' F4 B2 t.length e2 t ((listR_ok pfxR_ok).below L2.out h HF.out) (HF.out.below h) (by omega)
      have Lx := Lib.hid lx
      have Ly := Lib.hid ly
      clear lx ly
      go_cut [11, 12] (fun x y wx => ∃ A7 c7 A8 c8 Fx Fy, x = .slice A7 s.length c7 ∧ y = .slice A8 t.length c8 ∧ Hid (listR 2 pfxR wx Fx [.slice A7 s.length c7] s ∧ InF Fx wx) ∧ Hid (listR 2 pfxR wx Fy [.slice A8 t.length c8] t ∧ InF Fy wx) ∧ Below W.heap.size W wx)
      case first =>
        as_aux_lemma =>
        clear d1 d2 d3 h1 h2 h3 hsl htl HL HU HV HB1 hzc hzy hyb hzb
        go_region_held3 (fun w' => Below W.heap.size W w') (first | (with_reducible exact below_step (by assumption) hb1') | (repeat' (first | (with_reducible exact Below.refl _ _) | (with_reducible assumption) | (with_reducible exact Below.size (by assumption)) | (with_reducible refine Below.drew ?_))))
          (first
            | (go_at_call 12; (with_reducible refine (Lx.out _ ?_).mono ?_); assumption; rintro e ux ⟨A7, c7, Fx, rfl, hx, hFx, hb1'⟩; have hqx : Below W.heap.size W ux := below_step (by assumption) hb1'; have hbx := Lib.hid hb1'; have HX := Lib.hid (And.intro hx hFx); clear hx hFx)
            | (go_at_call 12; (with_reducible refine (Ly.out _ ?_).mono ?_); assumption; rintro e uy ⟨A8, c8, Fy, rfl, hy, hFy, hb1'⟩; have hqy : Below W.heap.size W uy := below_step (by assumption) hb1'; have hby := Lib.hid hb1'; have HY := Lib.hid (And.intro hy hFy); clear hy hFy)
            | fail)
        all_goals (go_wp2_with fail)
        all_goals go_meet
        all_goals exact ⟨A7, c7, A8, c8, Fx, Fy, rfl, rfl, Lib.hid ⟨(listR_ok pfxR_ok).below HX.out.1 hby.out HX.out.2, HX.out.2.below hby.out⟩, HY, hqy⟩
      case rest =>
        clear hWW
        obtain ⟨A7, c7, A8, c8, Fx, Fy, rfl, rfl, HX, HY, hWW⟩ := hcut
        go_wp2_with fail
        obtain ⟨w5, rfl⟩ : ∃ w5, w5 = wc := ⟨_, rfl⟩
        have HB9 : Hid (Below w.heap.size w w5) := Lib.hid (HS.out.grew.below.trans (hWW.mono HS.out.grew.below.size))
        have x1' : ∀ w', Below w5.heap.size w5 w' → w'.cell? ⟨w2.heap.size, 0, none⟩ = some (.slice A2 s.length c2) := fun w' h => x1 w' (below_step hWW h)
        have x2' : ∀ w', Below w5.heap.size w5 w' → w'.cell? ⟨w2.heap.size + 1, 0, none⟩ = some (.slice B2 t.length e2) := fun w' h => x2 w' (below_step hWW h)
        have Hst5 := Lib.hid (fun w' (h : Below w5.heap.size w5 w') => Hst.out w' (below_step hWW h))
        clear d1 d2 d3 h1 h2 h3 HL HU HV HB1 hzc hzy hyb hzb x1 x2 x3 hWW
        go_loopw [13] (fun i wr => ∃ j : Nat, j ≤ s.length ∧ j ≤ t.length ∧ i = .int .i64 j ∧ Hid (s.take j = t.take j) ∧ Below w5.heap.size w5 wr) (fun i _ => s.length - (intOf i).toNat)
        case atStart => exact ⟨0, Nat.zero_le _, Nat.zero_le _, rfl, Lib.hid rfl, Below.refl _ _⟩
        case round =>
          obtain ⟨j, hj1, hj2, rfl, HT, hB⟩ := hrel
          by_cases p1 : j < s.length
          · by_cases p2 : j < t.length
            · obtain ⟨x1, x2, bx, ox, hx, rfl, hFx, hfx, e1, e2'⟩ := pfx_at HX.out.1 p1
              obtain ⟨y1, y2, by_, oy, hy, rfl, hFy, hfy, e3, e4'⟩ := pfx_at HY.out.1 p2
              have r1 : ∀ w', Below w5.heap.size w5 w' → w'.cell? ⟨bx, ox + j * 2, none⟩ = some (.int .u32 x1) := fun w' h => (h.cell (p := ⟨bx, _, none⟩) (HX.out.2 _ hFx)).trans e1
              have r2 : ∀ w', Below w5.heap.size w5 w' → w'.cell? ⟨bx, ox + j * 2 + 1, none⟩ = some (.int .i64 x2) := fun w' h => (h.cell (p := ⟨bx, _, none⟩) (HX.out.2 _ hFx)).trans e2'
              have r3 : ∀ w', Below w5.heap.size w5 w' → w'.cell? ⟨by_, oy + j * 2, none⟩ = some (.int .u32 y1) := fun w' h => (h.cell (p := ⟨by_, _, none⟩) (HY.out.2 _ hFy)).trans e3
              have r4 : ∀ w', Below w5.heap.size w5 w' → w'.cell? ⟨by_, oy + j * 2 + 1, none⟩ = some (.int .i64 y2) := fun w' h => (h.cell (p := ⟨by_, _, none⟩) (HY.out.2 _ hFy)).trans e4'
              have g1 := r1 wr hB
              have g2 := r2 wr hB
              have g3 := r3 wr hB
              have g4 := r4 wr hB
              have m0 : (0 : Int) ≤ (j : Int) := by omega
              have m1 : (j : Int) < (s.length : Int) := by omega
              have m2 : (j : Int) < (t.length : Int) := by omega
              have n1 : decide ((j : Int) < (s.length : Int)) = true := decide_eq_true m1
              have n2 : decide ((j : Int) < (t.length : Int)) = true := decide_eq_true m2
              have Hx := Lib.hid hx
              have Hy := Lib.hid hy
              have Hf := Lib.hid (And.intro hfx hfy)
              clear hx hy hfx hfy e1 e2' e3 e4'
              cases hq : (x1 == y1)
              · have hzz : cmpP ⟨x1, x2⟩ ⟨y1, y2⟩ = z := by
                  rw [Hz.out]
                  exact (cmpPs_first HT.out Hx.out Hy.out (fun e => by simp only [Pfx.mk.injEq] at e; simp [e.1] at hq)).symm
                have hpc := fun W' => ip_CmpB x1 x2 y1 y2 W' Hf.out.1 Hf.out.2
                rw [hzz] at hpc
                have Hpc := Lib.hid hpc
                clear hpc hzz
                go_wp2_with fail
                go_quiet (fail)
                go_upto_region 16 with fail
                have hB' := below_dn2 hB nq
                go_region_held3 (fun w' => Below w5.heap.size w5 w') (first | (with_reducible exact below_step (by assumption) hb1') | (repeat' (first | (with_reducible exact Below.refl _ _) | (with_reducible assumption) | (with_reducible exact Below.size (by assumption)) | (with_reducible refine Below.drew ?_))))
                  (first
                    | (go_at_call 23; (with_reducible refine (Hst5.out _ ?_).mono ?_); assumption; rintro e u1 ⟨rfl, hb1'⟩; have hqq : Below w5.heap.size w5 u1 := below_step (by assumption) hb1')
                    | (go_at_call 13; (with_reducible refine (Hpc.out _).mono ?_); rintro e u1 ⟨rfl, hb1'⟩; have hqq : Below w5.heap.size w5 u1 := below_step (by assumption) hb1')
                    | fail)
                all_goals (go_wp2_with fail)
                all_goals go_ret
                all_goals exact ⟨by simp, HB9.out.trans (Below.mono (by assumption) HB9.out.size)⟩
              · cases hq2 : (x2 == y2)
                · have hzz : cmpP ⟨x1, x2⟩ ⟨y1, y2⟩ = z := by
                    rw [Hz.out]
                    exact (cmpPs_first HT.out Hx.out Hy.out (fun e => by simp only [Pfx.mk.injEq] at e; simp [e.2] at hq2)).symm
                  have hpc := fun W' => ip_CmpB x1 x2 y1 y2 W' Hf.out.1 Hf.out.2
                  rw [hzz] at hpc
                  have Hpc := Lib.hid hpc
                  clear hpc hzz
                  go_wp2_with fail
                  go_quiet (fail)
                  go_upto_region 16 with fail
                  have hB' := below_dn2 hB nq
                  go_region_held3 (fun w' => Below w5.heap.size w5 w') (first | (with_reducible exact below_step (by assumption) hb1') | (repeat' (first | (with_reducible exact Below.refl _ _) | (with_reducible assumption) | (with_reducible exact Below.size (by assumption)) | (with_reducible refine Below.drew ?_))))
                    (first
                      | (go_at_call 23; (with_reducible refine (Hst5.out _ ?_).mono ?_); assumption; rintro e u1 ⟨rfl, hb1'⟩; have hqq : Below w5.heap.size w5 u1 := below_step (by assumption) hb1')
                      | (go_at_call 13; (with_reducible refine (Hpc.out _).mono ?_); rintro e u1 ⟨rfl, hb1'⟩; have hqq : Below w5.heap.size w5 u1 := below_step (by assumption) hb1')
                      | fail)
                  all_goals (go_wp2_with fail)
                  all_goals go_ret
                  all_goals exact ⟨by simp, HB9.out.trans (Below.mono (by assumption) HB9.out.size)⟩
                · have f1 : x1 = y1 := by simpa using hq
                  have f2 : x2 = y2 := by simpa using hq2
                  subst f1
                  subst f2
                  clear hq hq2
                  go_wp2_with fail
                  go_quiet (fail)
                  go_wp2_with fail
                  go_roundw
                  case rel => exact ⟨j + 1, by omega, by omega, by go_num, Lib.hid (by rw [take_snoc Hx.out, take_snoc Hy.out, HT.out]), below_dn2 hB _⟩
                  case measure => simp [intOf]; omega
            · have n1 : decide ((j : Int) < (s.length : Int)) = true := decide_eq_true (by omega)
              have n2 : decide ((j : Int) < (t.length : Int)) = false := decide_eq_false (by omega)
              have hx1 := x1' wr hB
              have hx2 := x2' wr hB
              -- p2
              have hfin := cmpPs_len HT.out (fun h => p2 h.2) hj1 hj2
              rw [← Hz.out] at hfin
              cases hlt : decide (s.length < t.length)
              · rw [hlt] at hfin
                have f1 : decide ((s.length : Int) < (t.length : Int)) = false := by rw [← hlt]; simp
                have F2 : Hid (¬ s.length < t.length) := Lib.hid (by simpa using hlt)
                clear hlt
                go_wp2_with (go_at_call 23; (with_reducible refine (Hst5.out _ ?_).mono ?_); assumption; rintro e u1 ⟨rfl, hb1'⟩; have hqq := below_step hB hb1')
                go_ret
                exact ⟨by simp; have := F2.out; omega, HB9.out.trans (hqq.mono HB9.out.size)⟩
              · rw [hlt] at hfin
                have f1 : decide ((s.length : Int) < (t.length : Int)) = true := by rw [← hlt]; simp
                have F2 : Hid (s.length < t.length) := Lib.hid (by simpa using hlt)
                clear hlt
                go_wp2_with (go_at_call 23; (with_reducible refine (Hst5.out _ ?_).mono ?_); assumption; rintro e u1 ⟨rfl, hb1'⟩; have hqq := below_step hB hb1')
                go_ret
                exact ⟨by simp; have := F2.out; omega, HB9.out.trans (hqq.mono HB9.out.size)⟩
          · have n1 : decide ((j : Int) < (s.length : Int)) = false := decide_eq_false (by omega)
            have hx1 := x1' wr hB
            have hx2 := x2' wr hB
            have hfin := cmpPs_len HT.out (fun h => p1 h.1) hj1 hj2
            rw [← Hz.out] at hfin
            cases hlt : decide (s.length < t.length)
            · rw [hlt] at hfin
              have f1 : decide ((s.length : Int) < (t.length : Int)) = false := by rw [← hlt]; simp
              have F2 : Hid (¬ s.length < t.length) := Lib.hid (by simpa using hlt)
              clear hlt
              go_wp2_with (go_at_call 23; (with_reducible refine (Hst5.out _ ?_).mono ?_); assumption; rintro e u1 ⟨rfl, hb1'⟩; have hqq := below_step hB hb1')
              go_ret
              exact ⟨by simp; have := F2.out; omega, HB9.out.trans (hqq.mono HB9.out.size)⟩
            · rw [hlt] at hfin
              have f1 : decide ((s.length : Int) < (t.length : Int)) = true := by rw [← hlt]; simp
              have F2 : Hid (s.length < t.length) := Lib.hid (by simpa using hlt)
              clear hlt
              go_wp2_with (go_at_call 23; (with_reducible refine (Hst5.out _ ?_).mono ?_); assumption; rintro e u1 ⟨rfl, hb1'⟩; have hqq := below_step hB hb1')
              go_ret
              exact ⟨by simp; have := F2.out; omega, HB9.out.trans (hqq.mono HB9.out.size)⟩
end Go.Proofs.Ythiodgnklfbmjaa
