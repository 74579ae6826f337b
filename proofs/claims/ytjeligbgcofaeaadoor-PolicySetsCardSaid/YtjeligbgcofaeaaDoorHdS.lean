/- slices.SortFunc at headers whose numbers fit. -/
import Derived.Test.YtjeligbgcofaeaaDoorHdF
import Derived.Test.YtjeligbgcofaeaaDoorSortK
namespace Go.Proofs.YtjeligbgcofaeaaDoor
open Go.RowKit Go.Sort Go.Shelf
set_option linter.unusedVariables false
set_option linter.unusedSimpArgs false

/-! ### the order of keys -/
theorem cmpL_bd : ∀ xs ys : List Int, cmpL xs ys = -1 ∨ cmpL xs ys = 0 ∨ cmpL xs ys = 1
  | [], [] => by simp [cmpL]
  | [], _ :: _ => by simp [cmpL]
  | _ :: _, [] => by simp [cmpL]
  | x :: xs, y :: ys => by
    rw [cmpL]
    split
    · simp
    · split
      · simp
      · exact cmpL_bd xs ys
theorem cmpL_neg : ∀ xs ys : List Int, cmpL ys xs = -cmpL xs ys
  | [], [] => by simp [cmpL]
  | [], _ :: _ => by simp [cmpL]
  | _ :: _, [] => by simp [cmpL]
  | x :: xs, y :: ys => by
    rw [cmpL, cmpL]
    by_cases h1 : x < y
    · have h2 : ¬ y < x := by omega
      simp [h1, h2]
    · by_cases h2 : y < x
      · simp [h1, h2]
      · simp only [h1, h2, if_false]
        exact cmpL_neg xs ys
theorem cmpL_eq : ∀ {xs ys : List Int}, cmpL xs ys = 0 → xs = ys
  | [], [], _ => rfl
  | [], _ :: _, h => by simp [cmpL] at h
  | _ :: _, [], h => by simp [cmpL] at h
  | x :: xs, y :: ys, h => by
    rw [cmpL] at h
    by_cases h1 : x < y
    · rw [if_pos h1] at h; cases h
    · by_cases h2 : y < x
      · rw [if_neg h1, if_pos h2] at h; cases h
      · rw [if_neg h1, if_neg h2] at h
        rw [show x = y by omega, cmpL_eq h]
theorem cmpL_trans : ∀ {xs ys zs : List Int}, cmpL xs ys < 0 → cmpL ys zs < 0 → cmpL xs zs < 0
  | [], [], _, h, _ => by simp [cmpL] at h
  | [], _ :: _, [], _, h => by simp [cmpL] at h
  | [], _ :: _, _ :: _, _, _ => by simp [cmpL]
  | _ :: _, [], _, h, _ => by simp [cmpL] at h
  | x :: xs, y :: ys, [], _, h => by simp [cmpL] at h
  | x :: xs, y :: ys, z :: zs, h1, h2 => by
    rw [cmpL] at h1 h2 ⊢
    by_cases a : x < y
    · by_cases b : y < z
      · rw [if_pos (by omega)]; omega
      · by_cases c : z < y
        · rw [if_neg b, if_pos c] at h2; omega
        · rw [if_pos (by omega)]; omega
    · by_cases a' : y < x
      · rw [if_neg a, if_pos a'] at h1; omega
      · rw [if_neg a, if_neg a'] at h1
        by_cases b : y < z
        · rw [if_pos (by omega)]; omega
        · by_cases c : z < y
          · rw [if_neg b, if_pos c] at h2; omega
          · rw [if_neg b, if_neg c] at h2
            rw [if_neg (by omega), if_neg (by omega)]
            exact cmpL_trans h1 h2
theorem numL_inj : ∀ (n : Nat) (xs ys : List Int), xs.length = n → ys.length = n → (∀ b ∈ xs, 0 ≤ b ∧ b ≤ 255) → (∀ b ∈ ys, 0 ≤ b ∧ b ≤ 255) → numL xs = numL ys → xs = ys
  | 0, xs, ys, h1, h2, _, _, _ => by rw [List.eq_nil_of_length_eq_zero h1, List.eq_nil_of_length_eq_zero h2]
  | n + 1, xs, ys, h1, h2, h3, h4, h => by
    obtain ⟨cs, b, rfl⟩ : ∃ cs b, xs = cs ++ [b] := ⟨xs.dropLast, xs.getLast (by intro e; subst e; simp at h1), (List.dropLast_concat_getLast _).symm⟩
    obtain ⟨ds, d, rfl⟩ : ∃ cs b, ys = cs ++ [b] := ⟨ys.dropLast, ys.getLast (by intro e; subst e; simp at h2), (List.dropLast_concat_getLast _).symm⟩
    rw [numL_snoc, numL_snoc] at h
    have hb := h3 b (by simp)
    have hd := h4 d (by simp)
    have := numL_inj n cs ds (by simpa using h1) (by simpa using h2) (fun x hx => h3 x (by simp [hx])) (fun x hx => h4 x (by simp [hx])) (by omega)
    rw [this, show b = d by omega]
theorem mac_inj {m n : Mac6} (hm : m.Fits) (hn : n.Fits) (h : m.num = n.num) : m = n := by
  have := numL_inj 6 m.l n.l rfl rfl hm hn h
  obtain ⟨a0, a1, a2, a3, a4, a5⟩ := m
  obtain ⟨b0, b1, b2, b3, b4, b5⟩ := n
  simp only [Mac6.l, List.cons.injEq, and_true] at this
  obtain ⟨rfl, rfl, rfl, rfl, rfl, rfl⟩ := this
  rfl
structure Hdr.Ok (h : Hdr) : Prop where
  fits : h.Fits
  ok : okH h = true
theorem Hdr.Ok.nums {h : Hdr} (o : h.Ok) : (0 ≤ h.port ∧ h.port ≤ 255) ∧ (0 ≤ h.typ ∧ h.typ ≤ 65535) ∧ (0 ≤ h.proto ∧ h.proto ≤ 255) ∧ (0 ≤ h.sp ∧ h.sp ≤ 65535) ∧ (0 ≤ h.dp ∧ h.dp ≤ 65535) := by
  have := o.ok
  simp only [okH, chkL, okP, List.all_cons, List.all_nil, Bool.and_true, Bool.and_eq_true, decide_eq_true_eq] at this
  have e0 : fullN 0 = 255 := rfl
  have e3 : fullN 3 = 65535 := rfl
  have e6 : fullN 6 = 255 := rfl
  have e7 : fullN 7 = 65535 := rfl
  have e8 : fullN 8 = 65535 := rfl
  rw [e0, e3, e6, e7, e8] at this
  omega
theorem key_inj {h g : Hdr} (oh : h.Ok) (og : g.Ok) (e : keyH h = keyH g) : h = g := by
  simp only [keyH, getN, List.cons.injEq, and_true] at e
  obtain ⟨e0, e1, e2, e3, e4, e5, e6, e7, e8⟩ := e
  have m1 := mac_inj oh.fits.src og.fits.src e1
  have m2 := mac_inj oh.fits.dst og.fits.dst e2
  have n1 := oh.nums
  have n2 := og.nums
  obtain ⟨p, s, d, t, si, di, pr, sp, dp⟩ := h
  obtain ⟨p', s', d', t', si', di', pr', sp', dp'⟩ := g
  simp only at *
  subst m1 m2
  congr 1 <;> omega
abbrev OHdr := { h : Hdr // h.Ok }
theorem zeroH_ok : zeroH.Ok := by
  refine ⟨⟨by unfold I64; simp [zeroH], ?_, ?_, by unfold I64; simp [zeroH], by unfold U32; simp [zeroH], by unfold U32; simp [zeroH], by unfold I64; simp [zeroH], by unfold I64; simp [zeroH], by unfold I64; simp [zeroH]⟩, by rfl⟩
  · intro b hb; simp [zeroH, Mac6.l] at hb; subst hb; omega
  · intro b hb; simp [zeroH, Mac6.l] at hb; subst hb; omega
instance : Inhabited OHdr := ⟨⟨zeroH, zeroH_ok⟩⟩
def encH (h : OHdr) : List Value := h.1.vals
def cmpO (a b : OHdr) : Int := cmpH a.1 b.1
theorem ltO_iff (a b : OHdr) : ltOf cmpO a b = decide (cmpO a b < 0) := rfl
theorem swoO : SWO (ltOf cmpO) where
  irrefl x := by rw [ltO_iff]; unfold cmpO cmpH; rw [cmpL_self]; rfl
  trans x y z h1 h2 := by
    rw [ltO_iff, decide_eq_true_eq] at *
    exact cmpL_trans h1 h2
  ntrans x y z h1 h2 := by
    rw [ltO_iff, decide_eq_false_iff_not] at *
    intro h3
    unfold cmpO cmpH at *
    rcases cmpL_bd (keyH x.1) (keyH y.1) with e | e | e
    · omega
    · rw [cmpL_eq e] at h3; exact h2 h3
    · have : cmpL (keyH y.1) (keyH x.1) < 0 := by rw [cmpL_neg]; omega
      exact h2 (cmpL_trans this h3)
theorem totO (p q : OHdr) (h1 : ltOf cmpO p q = false) (h2 : ltOf cmpO q p = false) : p = q := by
  rw [ltO_iff, decide_eq_false_iff_not] at h1 h2
  unfold cmpO cmpH at h1 h2
  rw [cmpL_neg] at h2
  exact Subtype.ext (key_inj p.2 q.2 (cmpL_eq (by omega)))
def sortO (xs : List OHdr) : List OHdr := xs.mergeSort fun x y => !ltOf cmpO y x
theorem sortO_perm (xs : List OHdr) : (sortO xs).Perm xs := List.mergeSort_perm _ _
theorem sortO_len (xs : List OHdr) : (sortO xs).length = xs.length := (sortO_perm xs).length_eq
theorem encH_len (h : OHdr) : (encH h).length = 19 := rfl
set_option maxRecDepth 100000 in
set_option maxHeartbeats 2000000 in
theorem hd_Sort (w : World) (g n cap : Nat) (xs : List OHdr) (T : List Value) (hT : Tab w) (hg0 : 0 < g) (hn : n = xs.length) (hblk : Blk w g 31 (cellsK encH xs ++ T).toArray) (hm : n ≤ 1073741824) :
    Calls Tryd.prog 55 #[.slice (some ⟨g, 0, none⟩) n cap, .func (.func 56) #[] #[]] w fun e w' => e = .returned (.tuple #[]) ∧ Blk w' g 31 (cellsK encH (sortO xs) ++ T).toArray ∧ w.grownBy w' (some g) := by
  have eg : ∀ args w, (callFunc 56 args).run Tryd.prog w = .ok (.enter 56 args) w := enters_of Tryd.func56 (by kernel_rfl) rfl
  have hTs : ∀ (m : Nat) (dk : Array OHdr) (os : Array Obj), Tab (sortWorldK encH 19 w g 0 m dk os) := fun m dk os k hk => by
    have h1 := sortWorldK_other (enc := encH) (k := 19) w g m dk os (i := 0) hT.lt (by omega)
    exact (World.cell?_of_block (a := ⟨0, k, none⟩) h1).trans (hT k hk)
  have hcmp : CmpLays Tryd.prog 56 #[] encH 19 cmpO g 0 xs.toArray.size w := fun m os dk hdk x y => (hd_Cmp x.1 y.1 _ (hTs m dk os) x.2.fits y.2.fits).mono fun e w' ⟨he, hw⟩ => ⟨he, hw.form⟩
  have hcon := AnyQ.slices_SortFunc_total Tryd.laySort 19 Tryd.isAgg31 Tryd.sizeOf31 encH encH_len (fun x v hv => vals_one x.1 v hv) cmpO swoO 56 #[] g 0 cap xs.toArray w eg hcmp (holds_blkK encH_len (by omega) hblk) hblk.lt (by simp; omega) totO
  change Calls Tryd.prog 55 _ _ _ at hcon
  simp only [List.size_toArray, ← hn] at hcon
  refine hcon.mono ?_
  rintro e w' ⟨rfl, m, os, rfl⟩
  have h1 := put_blkK (ys := sortO xs) encH_len (by omega) hblk (sortO_len xs) m
  exact ⟨rfl, grow_blk h1 os, grownBy_step (put_otherK w g m (sortO xs)) (grow_below _ os)⟩
end Go.Proofs.YtjeligbgcofaeaaDoor
