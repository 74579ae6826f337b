/- (Attrs).Check: what is right. -/
import Derived.Test.YtngfabnkgpidjaaChooseA
import Derived.Deep.QuietTactic
import Derived.BigQuiet
namespace Go.Proofs.Ytngfabnkgpidjaa
open Go.RowKit
set_option linter.unusedVariables false

def hostB (a : Int) : Bool := decide (a / 16777216 ≠ 0 ∧ a / 16777216 ≠ 127 ∧ a / 268435456 < 14)
set_option maxHeartbeats 400000 in
theorem attr_host (w : World) (a : Int) (h0 : 0 ≤ a) (h1 : a ≤ 4294967295) :
    Calls Try.prog 38 #[.int .u32 a] w fun e w' => e = .returned (.bool (hostB a)) ∧ w = w' := by
  have ha : 0 ≤ a / 16777216 := by omega
  go_enter Try.func38, Try.ntmps38
  go_wp2
  all_goals go_ret
  all_goals refine ⟨ret_bool ?_, rfl⟩
  all_goals (unfold hostB; simp_all)
def wordB (n : Int) : Bool := decide (0 ≤ n ∧ n < 4294967296)
set_option maxHeartbeats 400000 in
theorem attr_word (w : World) (n : Int) :
    Calls Try.prog 37 #[.int .i64 n] w fun e w' => e = .returned (.bool (wordB n)) ∧ w = w' := by
  go_enter Try.func37, Try.ntmps37
  go_wp2
  all_goals go_ret
  all_goals refine ⟨ret_bool ?_, rfl⟩
  all_goals (unfold wordB; first | (simp_all; done) | (simp_all; omega) | (simp; omega))

theorem attr_IsQ (w : World) (F : Nat → Prop) (cs : List Value) (a : Attrs) (h : attrsR w F cs a) (t : Int) (h0 : 0 ≤ a.has) (h1 : 1 ≤ t) (h2 : t ≤ 8) (q : Bool) (hq : a.is t.toNat = q) :
    Calls Try.prog 31 #[.agg cs.toArray, .int .i64 t] w fun e w' => e = .returned (.bool q) ∧ Below w.heap.size w w' := by
  subst hq
  exact attr_IsT w F cs a h t h0 h1 h2
theorem attr_hostQ (w : World) (a : Int) (h0 : 0 ≤ a) (h1 : a ≤ 4294967295) (q : Bool) (hq : hostB a = q) :
    Calls Try.prog 38 #[.int .u32 a] w fun e w' => e = .returned (.bool q) ∧ w = w' := by
  subst hq
  exact attr_host w a h0 h1
theorem attr_wordQ (w : World) (n : Int) (q : Bool) (hq : wordB n = q) :
    Calls Try.prog 37 #[.int .i64 n] w fun e w' => e = .returned (.bool q) ∧ w = w' := by
  subst hq
  exact attr_word w n

def Attrs.bad0 (a : Attrs) : Bool := decide (a.has < 0) || bits .and .i64 a.has 1 != 0 || decide (512 ≤ a.has)
def Attrs.bad1 (a : Attrs) : Bool := (!a.is 1 && a.origin != 0) || decide (a.origin < 0) || decide (2 < a.origin)
def Attrs.bad2 (a : Attrs) : Bool := !a.is 2 && decide (0 < a.path.length)
def Attrs.bad3 (a : Attrs) : Bool := (a.is 3 != hostB a.nextHop) || (!a.is 3 && a.nextHop != 0)
def Attrs.bad4 (a : Attrs) : Bool := (!a.is 4 && a.med != 0) || !wordB a.med || (!a.is 5 && a.loc != 0) || !wordB a.loc
def Attrs.bad5 (a : Attrs) : Bool := (!a.is 7 && (a.aggrAs != 0 || a.aggrId != 0)) || decide (a.aggrAs < 0) || decide (65535 < a.aggrAs)
def Attrs.bad6 (a : Attrs) : Bool := (!a.is 8 && decide (0 < a.comms.length)) || decide (256 < a.comms.length)
def asOk (n : Int) : Bool := decide (1 ≤ n ∧ n ≤ 65535)
def Seg.ok (s : Seg) : Bool := decide (0 < s.row.length) && decide (s.row.length ≤ 255) && s.row.all asOk
def otherOk (l : List Other) (i : Nat) : Bool :=
  match l[i]? with
  | none => true
  | some o => decide (8 < o.type) && decide (o.type ≤ 255) && (i == 0 || match l[i - 1]? with
    | none => true
    | some p => decide (p.type < o.type))
def Attrs.okAll (a : Attrs) : Bool := a.path.all Seg.ok && a.comms.all wordB && (List.range a.others.length).all (otherOk a.others)
def Attrs.checkE (a : Attrs) : Int := if a.bad0 || a.bad1 || a.bad2 || a.bad3 || a.bad4 || a.bad5 || a.bad6 || !a.okAll then 1 else 0

theorem below_dn {n : Nat} {a w : World} (h : Below n a w) (k : Nat) : Below n a (w.drewN k) := h.trans ⟨rfl, rfl, rfl, Nat.le_refl _, fun _ _ => rfl⟩
theorem okAll_path {a : Attrs} {k : Nat} {s : Seg} (hx : a.path[k]? = some s) (h : s.ok = false) : a.okAll = false := by
  have : a.path.all Seg.ok = false := List.all_eq_false.2 ⟨s, List.mem_of_getElem? hx, by simp [h]⟩
  simp [Attrs.okAll, this]
theorem okAll_comms {a : Attrs} {k : Nat} {c : Int} (hx : a.comms[k]? = some c) (h : wordB c = false) : a.okAll = false := by
  have : a.comms.all wordB = false := List.all_eq_false.2 ⟨c, List.mem_of_getElem? hx, by simp [h]⟩
  simp [Attrs.okAll, this]
theorem okAll_others {a : Attrs} {k : Nat} (hk : k < a.others.length) (h : otherOk a.others k = false) : a.okAll = false := by
  have : (List.range a.others.length).all (otherOk a.others) = false := List.all_eq_false.2 ⟨k, List.mem_range.2 hk, by simp [h]⟩
  simp [Attrs.okAll, this]
theorem okAll_of {a : Attrs} (h1 : a.path.all Seg.ok = true) (h2 : a.comms.all wordB = true) (h3 : (List.range a.others.length).all (otherOk a.others) = true) : a.okAll = true := by
  simp only [Attrs.okAll, h1, h2, h3, Bool.and_self]
theorem all_take {α : Type} {p : α → Bool} {l : List α} {k : Nat} {x : α} (hx : l[k]? = some x) (h : (l.take k).all p = true) (hp : p x = true) : (l.take (k + 1)).all p = true := by
  rw [List.take_add_one, hx, List.all_append, h]
  simp [hp]
theorem all_whole {α : Type} {p : α → Bool} {l : List α} {k : Nat} (hk : l.length ≤ k) (h : (l.take k).all p = true) : l.all p = true := by
  rwa [List.take_of_length_le hk] at h
theorem seg_none {s : Seg} (h : s.row.length = 0) : s.ok = false := by simp [Seg.ok, h]
theorem seg_many {s : Seg} (h : 255 < s.row.length) : s.ok = false := by
  have : decide (s.row.length ≤ 255) = false := by simp; omega
  simp [Seg.ok, this]
theorem seg_as {s : Seg} {j : Nat} {x : Int} (hx : s.row[j]? = some x) (h : asOk x = false) : s.ok = false := by
  have : s.row.all asOk = false := List.all_eq_false.2 ⟨x, List.mem_of_getElem? hx, by simp [h]⟩
  simp [Seg.ok, this]
theorem seg_ok {s : Seg} (h0 : 0 < s.row.length) (h1 : s.row.length ≤ 255) (h : s.row.all asOk = true) : s.ok = true := by
  simp only [Seg.ok, h, h0, h1, decide_true, Bool.and_self]
theorem asOk_lt {x : Int} (h : x < 1) : asOk x = false := by simp [asOk]; omega
theorem asOk_gt {x : Int} (h : 65535 < x) : asOk x = false := by simp [asOk]; omega
theorem asOk_of {x : Int} (h0 : ¬ x < 1) (h1 : ¬ 65535 < x) : asOk x = true := by simp [asOk]; omega
theorem other_lt {l : List Other} {k : Nat} {o : Other} (hx : l[k]? = some o) (h : o.type ≤ 8) : otherOk l k = false := by
  have : decide (8 < o.type) = false := by simp; omega
  simp [otherOk, hx, this]
theorem other_gt {l : List Other} {k : Nat} {o : Other} (hx : l[k]? = some o) (h : 255 < o.type) : otherOk l k = false := by
  have : decide (o.type ≤ 255) = false := by simp; omega
  simp [otherOk, hx, this]
theorem other_zero {l : List Other} {o : Other} (hx : l[0]? = some o) (h0 : 8 < o.type) (h1 : o.type ≤ 255) : otherOk l 0 = true := by
  simp [otherOk, hx, h0, h1]
theorem other_succ {l : List Other} {k : Nat} {o p : Other} (hx : l[k + 1]? = some o) (hp : l[k]? = some p) (h0 : 8 < o.type) (h1 : o.type ≤ 255) : otherOk l (k + 1) = decide (p.type < o.type) := by
  simp [otherOk, hx, hp, h0, h1]
theorem all_range {p : Nat → Bool} {k : Nat} (h : (List.range k).all p = true) (hp : p k = true) : (List.range (k + 1)).all p = true := by
  rw [List.range_succ, List.all_append, h]
  simp [hp]

set_option maxRecDepth 100000 in
set_option maxHeartbeats 4000000 in
theorem attr_Check0 (w : World) (F : Nat → Prop) (cs : List Value) (a : Attrs) (h : attrsR w F cs a) (hb : a.bad0 = true) :
    Calls Try.prog 28 #[.agg cs.toArray] w fun e w' => e = .returned (.int .i64 a.checkE) ∧ Below w.heap.size w w' := by
  have e1 : a.checkE = 1 := by simp [Attrs.checkE, hb]
  rw [e1]
  obtain ⟨A1, n1, c1, A2, n2, c2, A3, n3, c3, rfl⟩ := h.lit
  have hc : a.has < 0 ∨ (¬ a.has < 0 ∧ (bits .and .i64 a.has 1 != 0) = true) ∨ (¬ a.has < 0 ∧ (bits .and .i64 a.has 1 != 0) = false ∧ 512 ≤ a.has) := by
    unfold Attrs.bad0 at hb
    by_cases h0 : a.has < 0
    · exact .inl h0
    · cases h1 : (bits .and .i64 a.has 1 != 0)
      · rw [h1] at hb
        simp [h0] at hb
        exact .inr (.inr ⟨h0, rfl, hb⟩)
      · exact .inr (.inl ⟨h0, rfl⟩)
  clear hb e1 h
  rcases hc with h0 | ⟨h0, h1⟩ | ⟨h0, h1, h2⟩
  all_goals
    go_enter Try.func28, Try.ntmps28
    go_wp2_with fail
    go_ret
    exact ⟨rfl, (Below.refl _ _).alloc (Nat.le_refl _) _⟩

set_option maxRecDepth 100000 in
set_option maxHeartbeats 40000000 in
theorem attr_Check1 (w : World) (F : Nat → Prop) (cs : List Value) (a : Attrs) (h : attrsR w F cs a) (hF : InF F w) (hb0 : a.bad0 = false) :
    Calls Try.prog 28 #[.agg cs.toArray] w fun e w' => e = .returned (.int .i64 a.checkE) ∧ Below w.heap.size w w' := by
  have hR := h
  have hfit := attrsR.fits1 h
  obtain ⟨A1, n1, c1, A2, n2, c2, A3, n3, c3, rfl⟩ := h.lit
  have hh : 0 ≤ a.has ∧ a.has < 512 ∧ (bits .and .i64 a.has 1 != 0) = false := by
    unfold Attrs.bad0 at hb0
    simp only [Bool.or_eq_false_iff, decide_eq_false_iff_not] at hb0
    exact ⟨by omega, by omega, hb0.1.2⟩
  obtain ⟨h0, h1, h2⟩ := hh
  have HC := Lib.hid (show a.checkE = if a.bad1 || a.bad2 || a.bad3 || a.bad4 || a.bad5 || a.bad6 || !a.okAll then 1 else 0 by rw [Attrs.checkE, hb0, Bool.false_or])
  have HL := Lib.hid (attrsR.lens h)
  have HN := Lib.hid hfit.nextHop
  go_enter Try.func28, Try.ntmps28
  go_upto_region 4 with fail
  refine wp_gen (fun W => Below w.heap.size w W ∧ Blk W w.heap.size 31 #[.int .i64 a.has, .int .i64 a.origin, .slice A1 n1 c1, .int .u32 a.nextHop, .int .i64 a.med, .int .i64 a.loc, .int .i64 a.aggrAs, .int .u32 a.aggrId, .slice A2 n2 c2, .slice A3 n3 c3]) ?_ ?_
  · exact ⟨(Below.refl _ _).alloc (Nat.le_refl _) _, Blk.new _ _ _⟩
  rintro W ⟨hW, hk⟩
  have k1 := hk.cells
  have HR := Lib.hid (fun w' (h : Below W.heap.size W w') => (attrsR_ok.below hR (below_step hW h) hF : attrsR w' F _ a))
  have HFW := Lib.hid (hF.below hW)
  clear hR h hk hfit hb0
  have hBB : Below W.heap.size W W := Below.refl _ _
  go_cut [26] (fun s wx => s = .bool a.bad1 ∧ Below W.heap.size W wx)
  case first =>
    as_aux_lemma =>
      obtain ⟨q0, e0⟩ : ∃ q, a.is (Int.toNat 1) = q := ⟨_, rfl⟩
      obtain ⟨q1, e1⟩ : ∃ q, (a.origin != 0) = q := ⟨_, rfl⟩
      obtain ⟨q2, e2⟩ : ∃ q, decide (a.origin < 0) = q := ⟨_, rfl⟩
      obtain ⟨q3, e3⟩ : ∃ q, decide (2 < a.origin) = q := ⟨_, rfl⟩
      have HQ := Lib.hid (show a.bad1 = ((!q0 && q1) || q2 || q3) by rw [← e0, ← e1, ← e2, ← e3]; rfl)
      go_wp2_with (go_at_call 31; (with_reducible refine (attr_IsT _ F _ a (HR.out _ ?_) _ h0 ?_ ?_).mono ?_); assumption; omega; omega; rintro e w1 ⟨rfl, hb1⟩; have hB1 := below_step hBB hb1)
      all_goals (go_meet; exact ⟨by rw [HQ.out]; simp_all, by assumption⟩)
  case rest =>
    clear hBB
    obtain ⟨rfl, hBB⟩ := hcut
    cases hq : a.bad1
    rotate_left
    · have HB1 := Lib.hid hq
      clear hq
      go_wp2_with fail
      go_ret
      exact ⟨ret_int (by rw [HC.out, HB1.out]; rfl), hW.trans (hBB.mono hW.size)⟩
    have HB1 := Lib.hid hq
    clear hq
    go_upto_region 6 with fail
    go_cut [45] (fun s wx => s = .bool a.bad2 ∧ Below W.heap.size W wx)
    case first =>
      as_aux_lemma =>
        obtain ⟨q0, e0⟩ : ∃ q, a.is (Int.toNat 2) = q := ⟨_, rfl⟩
        obtain ⟨q1, e1⟩ : ∃ q, decide ((0 : Int) < (n1 : Int)) = q := ⟨_, rfl⟩
        have HQ := Lib.hid (show a.bad2 = (!q0 && q1) by rw [← e0, ← e1]; unfold Attrs.bad2; rw [HL.out.1.len.1]; simp)
        go_wp2_with (go_at_call 31; (with_reducible refine (attr_IsT _ F _ a (HR.out _ ?_) _ h0 ?_ ?_).mono ?_); assumption; omega; omega; rintro e w1 ⟨rfl, hb1⟩; have hB1 := below_step hBB hb1)
        all_goals (go_meet; exact ⟨by rw [HQ.out]; simp_all, by assumption⟩)
    case rest =>
      clear hBB
      obtain ⟨rfl, hBB⟩ := hcut
      cases hq : a.bad2
      rotate_left
      · have HB2 := Lib.hid hq
        clear hq
        go_wp2_with fail
        go_ret
        exact ⟨ret_int (by rw [HC.out, HB1.out, HB2.out]; rfl), hW.trans (hBB.mono hW.size)⟩
      have HB2 := Lib.hid hq
      clear hq
      go_upto_region 7 with fail
      go_cut [45] (fun s wx => s = .bool a.bad3 ∧ Below W.heap.size W wx)
      case first =>
        as_aux_lemma =>
          obtain ⟨q0, e0⟩ : ∃ q, a.is (Int.toNat 3) = q := ⟨_, rfl⟩
          obtain ⟨q1, e1⟩ : ∃ q, hostB a.nextHop = q := ⟨_, rfl⟩
          obtain ⟨q2, e2⟩ : ∃ q, (a.nextHop != 0) = q := ⟨_, rfl⟩
          have HQ := Lib.hid (show a.bad3 = ((q0 != q1) || (!q0 && q2)) by rw [← e0, ← e1, ← e2]; rfl)
          have hn0 := HN.out.1
          have hn1 := HN.out.2
          have tok : True := trivial
          have hD := hBB.drew
          have Hu : undef = Value.tuple #[] := rfl
          cases q0 <;> cases q1
          all_goals
            first
              | go_region_with (first
                  | (go_at_call 38; (with_reducible refine (attr_hostQ _ _ hn0 hn1 _ e1).mono ?_); rintro e w' ⟨rfl, rfl⟩)
                  | (go_at_call 31; have _t := tok; (with_reducible refine (attr_IsQ _ F _ a (HR.out _ hBB.drew) 3 h0 ?_ ?_ _ e0).mono ?_); omega; omega; clear tok; rintro e w1 ⟨rfl, hb1⟩; have hB1 := below_step hBB.drew hb1)
                  | (go_at_call 31; (with_reducible refine (attr_IsQ _ F _ a (HR.out _ hB1) 3 h0 ?_ ?_ _ e0).mono ?_); omega; omega; rintro e w2 ⟨rfl, hb2⟩; have hB2 := below_step hB1 hb2))
              | fail
            all_goals simp only [← Hu]
            all_goals clear Hu
            all_goals go_wp2_with fail
            all_goals go_meet
            all_goals exact ⟨by rw [HQ.out]; simp_all, by assumption⟩
      case rest =>
        clear hBB
        obtain ⟨rfl, hBB⟩ := hcut
        cases hq : a.bad3
        rotate_left
        · have HB3 := Lib.hid hq
          clear hq
          go_wp2_with fail
          go_ret
          exact ⟨ret_int (by rw [HC.out, HB1.out, HB2.out, HB3.out]; rfl), hW.trans (hBB.mono hW.size)⟩
        have HB3 := Lib.hid hq
        clear hq
        go_upto_region 9 with fail
        go_cut [71] (fun s wx => s = .bool a.bad4 ∧ Below W.heap.size W wx)
        case first =>
          as_aux_lemma =>
            obtain ⟨q0, e0⟩ : ∃ q, a.is (Int.toNat 4) = q := ⟨_, rfl⟩
            obtain ⟨q1, e1⟩ : ∃ q, (a.med != 0) = q := ⟨_, rfl⟩
            obtain ⟨q2, e2⟩ : ∃ q, wordB a.med = q := ⟨_, rfl⟩
            obtain ⟨q3, e3⟩ : ∃ q, a.is (Int.toNat 5) = q := ⟨_, rfl⟩
            obtain ⟨q4, e4⟩ : ∃ q, (a.loc != 0) = q := ⟨_, rfl⟩
            obtain ⟨q5, e5⟩ : ∃ q, wordB a.loc = q := ⟨_, rfl⟩
            have HQ := Lib.hid (show a.bad4 = ((!q0 && q1) || !q2 || (!q3 && q4) || !q5) by rw [← e0, ← e1, ← e2, ← e3, ← e4, ← e5]; rfl)
            have tok : True := trivial
            go_wp2_with (first | (go_at_call 31; have _t := tok; (with_reducible refine (attr_IsT _ F _ a (HR.out _ hBB) 4 h0 ?_ ?_).mono ?_); omega; omega; clear tok; rintro e w1 ⟨rfl, hb1⟩; have hB1 := below_step hBB hb1) | (go_at_call 31; (with_reducible refine (attr_IsT _ F _ a (HR.out _ hB1) 5 h0 ?_ ?_).mono ?_); omega; omega; rintro e w2 ⟨rfl, hb2⟩; have hB2 := below_step hB1 hb2) | (go_at_call 37; (with_reducible refine (attr_word _ _).mono ?_); rintro e w' ⟨rfl, rfl⟩))
            all_goals (go_meet; exact ⟨by rw [HQ.out]; simp_all, by assumption⟩)
        case rest =>
          clear hBB
          obtain ⟨rfl, hBB⟩ := hcut
          cases hq : a.bad4
          rotate_left
          · have HB4 := Lib.hid hq
            clear hq
            go_wp2_with fail
            go_ret
            exact ⟨ret_int (by rw [HC.out, HB1.out, HB2.out, HB3.out, HB4.out]; rfl), hW.trans (hBB.mono hW.size)⟩
          have HB4 := Lib.hid hq
          clear hq
          go_upto_region 11 with fail
          go_cut [104] (fun s wx => s = .bool a.bad5 ∧ Below W.heap.size W wx)
          case first =>
            as_aux_lemma =>
              obtain ⟨q0, e0⟩ : ∃ q, a.is (Int.toNat 7) = q := ⟨_, rfl⟩
              obtain ⟨q1, e1⟩ : ∃ q, (a.aggrAs != 0) = q := ⟨_, rfl⟩
              obtain ⟨q2, e2⟩ : ∃ q, (a.aggrId != 0) = q := ⟨_, rfl⟩
              obtain ⟨q3, e3⟩ : ∃ q, decide (a.aggrAs < 0) = q := ⟨_, rfl⟩
              obtain ⟨q4, e4⟩ : ∃ q, decide (65535 < a.aggrAs) = q := ⟨_, rfl⟩
              have HQ := Lib.hid (show a.bad5 = ((!q0 && (q1 || q2)) || q3 || q4) by rw [← e0, ← e1, ← e2, ← e3, ← e4]; rfl)
              go_wp2_with (go_at_call 31; (with_reducible refine (attr_IsT _ F _ a (HR.out _ ?_) _ h0 ?_ ?_).mono ?_); assumption; omega; omega; rintro e w1 ⟨rfl, hb1⟩; have hB1 := below_step hBB hb1)
              all_goals (go_meet; exact ⟨by rw [HQ.out]; simp_all, by assumption⟩)
          case rest =>
            clear hBB
            obtain ⟨rfl, hBB⟩ := hcut
            cases hq : a.bad5
            rotate_left
            · have HB5 := Lib.hid hq
              clear hq
              go_wp2_with fail
              go_ret
              exact ⟨ret_int (by rw [HC.out, HB1.out, HB2.out, HB3.out, HB4.out, HB5.out]; rfl), hW.trans (hBB.mono hW.size)⟩
            have HB5 := Lib.hid hq
            clear hq
            go_upto_region 13 with fail
            go_cut [128] (fun s wx => s = .bool a.bad6 ∧ Below W.heap.size W wx)
            case first =>
              as_aux_lemma =>
                obtain ⟨q0, e0⟩ : ∃ q, a.is (Int.toNat 8) = q := ⟨_, rfl⟩
                have he1 : decide ((0 : Int) < (n2 : Int)) = decide (0 < a.comms.length) := decide_eq_decide.2 (by have := HL.out.2.1.len.1; omega)
                have he2 : decide ((256 : Int) < (n2 : Int)) = decide (256 < a.comms.length) := decide_eq_decide.2 (by have := HL.out.2.1.len.1; omega)
                have HQ := Lib.hid (show a.bad6 = ((!q0 && decide ((0 : Int) < (n2 : Int))) || decide ((256 : Int) < (n2 : Int))) by rw [← e0, he1, he2]; rfl)
                clear he1 he2
                by_cases hz : n2 = 0
                · subst hz
                  go_wp2_with (go_at_call 31; (with_reducible refine (attr_IsT _ F _ a (HR.out _ ?_) _ h0 ?_ ?_).mono ?_); assumption; omega; omega; rintro e w1 ⟨rfl, hb1⟩; have hB1 := below_step hBB hb1)
                  all_goals (go_meet; exact ⟨by rw [HQ.out]; simp_all, by assumption⟩)
                have d1 : decide ((0 : Int) < (n2 : Int)) = true := decide_eq_true (by omega)
                by_cases hy : 256 < n2
                · have d2 : decide ((256 : Int) < (n2 : Int)) = true := decide_eq_true (by omega)
                  go_wp2_with (go_at_call 31; (with_reducible refine (attr_IsT _ F _ a (HR.out _ ?_) _ h0 ?_ ?_).mono ?_); assumption; omega; omega; rintro e w1 ⟨rfl, hb1⟩; have hB1 := below_step hBB hb1)
                  all_goals (go_meet; exact ⟨by rw [HQ.out]; simp_all, by assumption⟩)
                have d2 : decide ((256 : Int) < (n2 : Int)) = false := decide_eq_false (by omega)
                go_wp2_with (go_at_call 31; (with_reducible refine (attr_IsT _ F _ a (HR.out _ ?_) _ h0 ?_ ?_).mono ?_); assumption; omega; omega; rintro e w1 ⟨rfl, hb1⟩; have hB1 := below_step hBB hb1)
                all_goals (go_meet; exact ⟨by rw [HQ.out]; simp_all, by assumption⟩)
            case rest =>
              clear hBB
              obtain ⟨rfl, hBB⟩ := hcut
              cases hq : a.bad6
              rotate_left
              · have HB6 := Lib.hid hq
                clear hq
                go_wp2_with fail
                go_ret
                exact ⟨ret_int (by rw [HC.out, HB1.out, HB2.out, HB3.out, HB4.out, HB5.out, HB6.out]; rfl), hW.trans (hBB.mono hW.size)⟩
              have HB6 := Lib.hid hq
              clear hq
              have HE := Lib.hid (show a.checkE = if a.okAll then 0 else 1 by rw [HC.out, HB1.out, HB2.out, HB3.out, HB4.out, HB5.out, HB6.out]; cases a.okAll <;> rfl)
              clear HC HB1 HB2 HB3 HB4 HB5 HB6 HN
              have hn1 := HL.out.1.len
              have hn2 := HL.out.2.1.len
              have hn3 := HL.out.2.2.len
              have HN1 := Lib.hid hn1.1
              have HN2 := Lib.hid hn2.1
              have HN3 := Lib.hid hn3.1
              have hx1 : n1 ≤ 9223372036854775807 := Nat.le_trans (Nat.le_trans hn1.2.1 hn1.2.2) (by decide)
              have hx2 : n2 ≤ 9223372036854775807 := Nat.le_trans (Nat.le_trans hn2.2.1 hn2.2.2) (by decide)
              have hx3 : n3 ≤ 9223372036854775807 := Nat.le_trans (Nat.le_trans hn3.2.1 hn3.2.2) (by decide)
              have HFw := Lib.hid hF
              clear hn1 hn2 hn3 hF
              go_wp2_with fail
              go_loopw [147] (fun i wr => ∃ k : Nat, k ≤ n1 ∧ i = .int .i64 k ∧ Hid ((a.path.take k).all Seg.ok = true) ∧ Below W.heap.size W wr) (fun i _ => n1 - (intOf i).toNat)
              case atStart => exact ⟨0, Nat.zero_le _, rfl, Lib.hid rfl, by assumption⟩
              case round =>
                clear hBB
                obtain ⟨k, hk, rfl, HT, hB⟩ := hrel
                by_cases hlt : k < n1
                · obtain ⟨s, hx⟩ : ∃ s, a.path[k]? = some s := ⟨_, List.getElem?_eq_getElem (by rw [← HN1.out]; exact hlt)⟩
                  obtain ⟨b, off, cs', rfl, hFb, ⟨v, rfl, hv⟩, hr⟩ := HL.out.1.at_ hx
                  obtain ⟨A4, C4, rfl⟩ := hv.val
                  have c0 := ((hW.trans (hB.mono hW.size)).cell (p := ⟨b, off + k * 2, none⟩) (HFw.out b hFb)).trans (hr 0 _ rfl)
                  have c1 := ((hW.trans (hB.mono hW.size)).cell (p := ⟨b, off + k * 2 + 1, none⟩) (HFw.out b hFb)).trans (hr 1 _ rfl)
                  have HX := Lib.hid hx
                  have HV := Lib.hid hv
                  obtain ⟨m, hm⟩ : ∃ m, s.row.length = m := ⟨_, rfl⟩
                  rw [hm] at c1
                  have HM := Lib.hid hm
                  have hmx : m ≤ maxLen := by have := hv.len; rw [← hm]; omega
                  clear hr hx hv hm
                  have hB' : Below W.heap.size W wr := hB
                  by_cases hm0 : m = 0
                  · subst hm0
                    go_wp2_with fail
                    go_ret
                    exact ⟨ret_int (by rw [HE.out, okAll_path HX.out (seg_none HM.out)]; rfl), hW.trans (Below.mono (hB.alloc hB.size _) hW.size)⟩
                  have hmz : ((m : Int) == 0) = false := beq_eq_false_iff_ne.2 (by omega)
                  by_cases hm1 : 255 < m
                  · have hmd : decide ((255 : Int) < (m : Int)) = true := decide_eq_true (by omega)
                    go_wp2_with fail
                    go_ret
                    exact ⟨ret_int (by rw [HE.out, okAll_path HX.out (seg_many (by rw [HM.out]; exact hm1))]; rfl), hW.trans (Below.mono (hB.alloc hB.size _) hW.size)⟩
                  have hmd : decide ((255 : Int) < (m : Int)) = false := decide_eq_false (by omega)
                  obtain ⟨wo, rfl⟩ : ∃ wo : World, wo = wr := ⟨_, rfl⟩
                  go_wp2_with fail
                  go_loopw [164] (fun i w2 => ∃ j : Nat, j ≤ m ∧ i = .int .i64 j ∧ Hid ((s.row.take j).all asOk = true) ∧ Below W.heap.size W w2) (fun i _ => m - (intOf i).toNat)
                  case atStart => exact ⟨0, Nat.zero_le _, rfl, Lib.hid rfl, hB.alloc hB.size _⟩
                  case round =>
                    obtain ⟨j, hj, rfl, HT2, hB2⟩ := hrel
                    by_cases hlt2 : j < m
                    · obtain ⟨x, hx⟩ : ∃ x, s.row[j]? = some x := ⟨_, List.getElem?_eq_getElem (by rw [HM.out]; exact hlt2)⟩
                      obtain ⟨b2, off2, cs2, rfl, hFb2, ⟨rfl, hxb⟩, hr2⟩ := HV.out.at_ hx
                      have c2 := ((hW.trans (hB2.mono hW.size)).cell (p := ⟨b2, off2 + j * 1, none⟩) (HFw.out b2 hFb2)).trans (hr2 0 _ rfl)
                      rw [Nat.mul_one] at c2
                      have HX2 := Lib.hid hx
                      have HXB := Lib.hid hxb
                      clear hr2 hx hxb
                      by_cases ha : x < 1
                      · have had : decide (x < 1) = true := by simpa using ha
                        have HA := Lib.hid ha
                        clear ha
                        go_wp2_with fail
                        go_ret
                        exact ⟨ret_int (by rw [HE.out, okAll_path HX.out (seg_as HX2.out (asOk_lt HA.out))]; rfl), hW.trans (Below.mono (by assumption) hW.size)⟩
                      have had : decide (x < 1) = false := by simpa using ha
                      have HA := Lib.hid ha
                      clear ha
                      by_cases hb : 65535 < x
                      · have hbd : decide (65535 < x) = true := by simpa using hb
                        have HB := Lib.hid hb
                        clear hb
                        go_wp2_with fail
                        go_ret
                        exact ⟨ret_int (by rw [HE.out, okAll_path HX.out (seg_as HX2.out (asOk_gt HB.out))]; rfl), hW.trans (Below.mono (by assumption) hW.size)⟩
                      have hbd : decide (65535 < x) = false := by simpa using hb
                      have HB := Lib.hid hb
                      clear hb
                      go_wp2_with fail
                      go_roundw
                      case rel => exact ⟨j + 1, by omega, by go_num, Lib.hid (all_take HX2.out HT2.out (asOk_of HA.out HB.out)), by assumption⟩
                      case measure => simp [intOf]; omega
                    · go_wp2_with fail
                      go_roundw
                      case rel => exact ⟨k + 1, by omega, by go_num, Lib.hid (all_take HX.out HT.out (seg_ok (by rw [HM.out]; omega) (by rw [HM.out]; omega) (all_whole (by rw [HM.out]; omega) HT2.out))), by assumption⟩
                      case measure => simp [intOf]; omega
                · have HP := Lib.hid (all_whole (by have := HN1.out; omega) HT.out)
                  clear HT
                  go_wp2_with fail
                  go_loopw [179] (fun i wx => ∃ k : Nat, k ≤ n2 ∧ i = .int .i64 k ∧ Hid ((a.comms.take k).all wordB = true) ∧ Below W.heap.size W wx) (fun i _ => n2 - (intOf i).toNat)
                  case atStart => exact ⟨0, Nat.zero_le _, rfl, Lib.hid rfl, by assumption⟩
                  case round =>
                    clear hB
                    obtain ⟨k, hk, rfl, HT, hB⟩ := hrel
                    by_cases hlt : k < n2
                    · obtain ⟨x, hx⟩ : ∃ x, a.comms[k]? = some x := ⟨_, List.getElem?_eq_getElem (by rw [← HN2.out]; exact hlt)⟩
                      obtain ⟨b, off, cs', rfl, hFb, ⟨rfl, hxb⟩, hr⟩ := HL.out.2.1.at_ hx
                      have c0 := ((hW.trans (hB.mono hW.size)).cell (p := ⟨b, off + k * 1, none⟩) (HFw.out b hFb)).trans (hr 0 _ rfl)
                      rw [Nat.mul_one] at c0
                      have HX := Lib.hid hx
                      clear hr hx hxb
                      cases hq : wordB x
                      · have HQ := Lib.hid hq
                        clear hq
                        go_wp2_with (go_at_call 37; (with_reducible refine (attr_wordQ _ _ _ HQ.out).mono ?_); rintro e w' ⟨rfl, rfl⟩)
                        go_ret
                        exact ⟨ret_int (by rw [HE.out, okAll_comms HX.out HQ.out]; rfl), hW.trans (Below.mono (by assumption) hW.size)⟩
                      · have HQ := Lib.hid hq
                        clear hq
                        go_wp2_with (go_at_call 37; (with_reducible refine (attr_wordQ _ _ _ HQ.out).mono ?_); rintro e w' ⟨rfl, rfl⟩)
                        go_roundw
                        case rel => exact ⟨k + 1, by omega, by go_num, Lib.hid (all_take HX.out HT.out HQ.out), by assumption⟩
                        case measure => simp [intOf]; omega
                    · have HP2 := Lib.hid (all_whole (by have := HN2.out; omega) HT.out)
                      clear HT
                      go_wp2_with fail
                      go_loopw [191] (fun i wx => ∃ k : Nat, k ≤ n3 ∧ i = .int .i64 k ∧ Hid ((List.range k).all (otherOk a.others) = true) ∧ Below W.heap.size W wx) (fun i _ => n3 - (intOf i).toNat)
                      case atStart => exact ⟨0, Nat.zero_le _, rfl, Lib.hid rfl, by assumption⟩
                      case round =>
                        clear hB
                        obtain ⟨k, hk, rfl, HT, hB⟩ := hrel
                        by_cases hlt : k < n3
                        · obtain ⟨o, hx⟩ : ∃ o, a.others[k]? = some o := ⟨_, List.getElem?_eq_getElem (by rw [← HN3.out]; exact hlt)⟩
                          obtain ⟨b, off, cs', rfl, hFb, ⟨v, rfl, hob, hv⟩, hr⟩ := HL.out.2.2.at_ hx
                          obtain ⟨A4, C4, rfl⟩ := hv.val
                          have c0 := ((hW.trans (hB.mono hW.size)).cell (p := ⟨b, off + k * 2, none⟩) (HFw.out b hFb)).trans (hr 0 _ rfl)
                          have c1 := ((hW.trans (hB.mono hW.size)).cell (p := ⟨b, off + k * 2 + 1, none⟩) (HFw.out b hFb)).trans (hr 1 _ rfl)
                          have HX := Lib.hid hx
                          obtain ⟨m, hm⟩ : ∃ m, o.value.length = m := ⟨_, rfl⟩
                          rw [hm] at c1
                          clear hr hx hv hm hob
                          have hB2 := hB.alloc hB.size (.cells #[.int .i64 o.type, .slice A4 m C4] 68)
                          have hB3 := hB2.drew
                          by_cases ha : o.type ≤ 8
                          · have had : decide (o.type ≤ 8) = true := by simpa using ha
                            have HA := Lib.hid ha
                            clear ha
                            go_wp2_with fail
                            go_quiet (fail)
                            go_wp2_with fail
                            go_ret
                            exact ⟨ret_int (by rw [HE.out, okAll_others (by have := HN3.out; omega) (other_lt HX.out HA.out)]; rfl), hW.trans (Below.mono (below_dn hB2 _) hW.size)⟩
                          have had : decide (o.type ≤ 8) = false := by simpa using ha
                          have HA := Lib.hid ha
                          clear ha
                          by_cases hb : 255 < o.type
                          · have hbd : decide (255 < o.type) = true := by simpa using hb
                            have HB := Lib.hid hb
                            clear hb
                            go_wp2_with fail
                            go_quiet (fail)
                            go_wp2_with fail
                            go_ret
                            exact ⟨ret_int (by rw [HE.out, okAll_others (by have := HN3.out; omega) (other_gt HX.out HB.out)]; rfl), hW.trans (Below.mono (below_dn hB2 _) hW.size)⟩
                          have hbd : decide (255 < o.type) = false := by simpa using hb
                          have HB := Lib.hid hb
                          clear hb
                          by_cases hk0 : k = 0
                          · subst hk0
                            simp only [Nat.zero_mul, Nat.add_zero] at c0 c1
                            go_wp2_with fail
                            go_quiet (fail)
                            go_wp2_with fail
                            go_roundw
                            case rel => exact ⟨1, by omega, by go_num, Lib.hid (all_range HT.out (other_zero HX.out (by have := HA.out; omega) (by have := HB.out; omega))), below_dn hB2 _⟩
                            case measure => simp [intOf]; omega
                          · obtain ⟨i, rfl⟩ : ∃ i, k = i + 1 := ⟨k - 1, by omega⟩
                            obtain ⟨p, hp⟩ : ∃ p, a.others[i]? = some p := ⟨_, List.getElem?_eq_getElem (by rw [← HN3.out]; omega)⟩
                            obtain ⟨b2, off2, cs2, he2, hFb2, ⟨v2, rfl, hob2, hv2⟩, hr2⟩ := HL.out.2.2.at_ hp
                            obtain ⟨rfl, rfl⟩ : b = b2 ∧ off = off2 := by simp only [Option.some.injEq, Addr.mk.injEq] at he2; exact ⟨he2.1, he2.2.1⟩
                            have c2 := ((hW.trans (hB2.mono hW.size)).cell (p := ⟨b, off + i * 2, none⟩) (HFw.out b hFb)).trans (hr2 0 _ rfl)
                            have c3 := ((hW.trans (hB3.mono hW.size)).cell (p := ⟨b, off + i * 2, none⟩) (HFw.out b hFb)).trans (hr2 0 _ rfl)
                            have HX2 := Lib.hid hp
                            clear hr2 hp hv2 hob2 he2
                            have hs0 : IntKind.i64.wrap (i : Int) = i := IntWalk.i64_in _ (by omega)
                            have hs1 : IntKind.i64.wrap ((i : Int) + 1 - 1) = i := by rw [Int.add_sub_cancel]; exact hs0
                            have hd : decide ((0 : Int) < (i : Int) + 1) = true := decide_eq_true (by omega)
                            by_cases hc : o.type ≤ p.type
                            · have hcd : decide (o.type ≤ p.type) = true := by simpa using hc
                              have HC := Lib.hid hc
                              clear hc
                              go_wp2_with fail
                              go_quiet (fail)
                              go_wp2_with fail
                              go_ret
                              exact ⟨ret_int (by rw [HE.out, okAll_others (by have := HN3.out; omega) ((other_succ HX.out HX2.out (by have := HA.out; omega) (by have := HB.out; omega)).trans (decide_eq_false (by have := HC.out; omega)))]; rfl), hW.trans (Below.mono (below_dn hB2 _) hW.size)⟩
                            · have hcd : decide (o.type ≤ p.type) = false := by simpa using hc
                              have HC := Lib.hid hc
                              clear hc
                              go_wp2_with fail
                              go_quiet (fail)
                              go_wp2_with fail
                              go_roundw
                              case rel => exact ⟨i + 1 + 1, by omega, by go_num, Lib.hid (all_range HT.out ((other_succ HX.out HX2.out (by have := HA.out; omega) (by have := HB.out; omega)).trans (decide_eq_true (by have := HC.out; omega)))), below_dn hB2 _⟩
                              case measure => simp [intOf]; omega
                        · have HP3 := Lib.hid HT.out
                          have hke : k = a.others.length := by have := HN3.out; omega
                          go_wp2_with fail
                          go_ret
                          exact ⟨ret_int (by rw [HE.out, okAll_of HP.out HP2.out (hke ▸ HP3.out)]; rfl), hW.trans (Below.mono (by assumption) hW.size)⟩
/-- what Check returns -/
theorem attr_Check (w : World) (F : Nat → Prop) (cs : List Value) (a : Attrs) (h : attrsR w F cs a) (hF : InF F w) :
    Calls Try.prog 28 #[.agg cs.toArray] w fun e w' => e = .returned (.int .i64 a.checkE) ∧ Below w.heap.size w w' := by
  cases hb : a.bad0
  · exact attr_Check1 w F cs a h hF hb
  · exact attr_Check0 w F cs a h hb
end Go.Proofs.Ytngfabnkgpidjaa
