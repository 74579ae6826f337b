/- The attributes of routes as data, and what the small functions on them return. -/
import Derived.Test.YtngfabnkgpidjaaLib
namespace Go.Proofs.Ytngfabnkgpidjaa
open Go.RowKit

structure Seg where
  set : Bool
  row : List Int
structure Other where
  type : Int
  value : List Int
structure Attrs where
  has : Int
  origin : Int
  path : List Seg
  nextHop : Int
  med : Int
  loc : Int
  aggrAs : Int
  aggrId : Int
  comms : List Int
  others : List Other

def segR : Rep Seg := fun w F cs s => ∃ v, cs = [.bool s.set, v] ∧ listR 1 (intR .i64) w F [v] s.row
def otherR : Rep Other := fun w F cs s => ∃ v, cs = [.int .i64 s.type, v] ∧ (-9223372036854775808 ≤ s.type ∧ s.type ≤ 9223372036854775807) ∧ listR 1 (intR .u8) w F [v] s.value
structure Attrs.Fits (a : Attrs) : Prop where
  has : -9223372036854775808 ≤ a.has ∧ a.has ≤ 9223372036854775807
  origin : -9223372036854775808 ≤ a.origin ∧ a.origin ≤ 9223372036854775807
  nextHop : 0 ≤ a.nextHop ∧ a.nextHop ≤ 4294967295
  med : -9223372036854775808 ≤ a.med ∧ a.med ≤ 9223372036854775807
  loc : -9223372036854775808 ≤ a.loc ∧ a.loc ≤ 9223372036854775807
  aggrAs : -9223372036854775808 ≤ a.aggrAs ∧ a.aggrAs ≤ 9223372036854775807
  aggrId : 0 ≤ a.aggrId ∧ a.aggrId ≤ 4294967295
def attrsR : Rep Attrs := fun w F cs a => ∃ p c o, cs = [.int .i64 a.has, .int .i64 a.origin, p, .int .u32 a.nextHop, .int .i64 a.med, .int .i64 a.loc, .int .i64 a.aggrAs, .int .u32 a.aggrId, c, o] ∧
  listR 2 segR w F [p] a.path ∧ listR 1 (intR .i64) w F [c] a.comms ∧ listR 2 otherR w F [o] a.others ∧ a.Fits

theorem one_of {v : Value} {α : Type} {size : Nat} {R : Rep α} {w : World} {F : Nat → Prop} {x : List α} (h : listR size R w F [v] x) : v.oneCell' = true := by
  obtain ⟨A, c, rfl⟩ := h.val
  rfl
theorem segR_ok : segR.Ok 2 := by
  refine ⟨?_, ?_, ?_⟩
  · rintro w F cs x ⟨v, rfl, _⟩
    rfl
  · rintro w F cs x ⟨v, rfl, h⟩ u hu
    simp at hu
    rcases hu with rfl | rfl
    · rfl
    · exact one_of h
  · rintro w w' F F' cs x ⟨v, rfl, h⟩ hk hs
    exact ⟨v, rfl, (listR_ok (intR_ok _)).keep h hk hs⟩
theorem otherR_ok : otherR.Ok 2 := by
  refine ⟨?_, ?_, ?_⟩
  · rintro w F cs x ⟨v, rfl, _⟩
    rfl
  · rintro w F cs x ⟨v, rfl, _, h⟩ u hu
    simp at hu
    rcases hu with rfl | rfl
    · rfl
    · exact one_of h
  · rintro w w' F F' cs x ⟨v, rfl, hb, h⟩ hk hs
    exact ⟨v, rfl, hb, (listR_ok (intR_ok _)).keep h hk hs⟩
theorem attrsR_ok : attrsR.Ok 10 := by
  refine ⟨?_, ?_, ?_⟩
  · rintro w F cs x ⟨p, c, o, rfl, _⟩
    rfl
  · rintro w F cs x ⟨p, c, o, rfl, h1, h2, h3, _⟩ u hu
    simp at hu
    rcases hu with rfl | rfl | rfl | rfl | rfl | rfl | rfl | rfl | rfl | rfl <;> first | rfl | exact one_of h1 | exact one_of h2 | exact one_of h3
  · rintro w w' F F' cs x ⟨p, c, o, rfl, h1, h2, h3, h4⟩ hk hs
    exact ⟨p, c, o, rfl, (listR_ok segR_ok).keep h1 hk hs, (listR_ok (intR_ok _)).keep h2 hk hs, (listR_ok otherR_ok).keep h3 hk hs, h4⟩

/-- its path is not long -/
structure Attrs.Small (a : Attrs) : Prop where
  path : a.path.length ≤ 1048576
  segs : ∀ s ∈ a.path, s.row.length ≤ 1048576

def Attrs.is (a : Attrs) (t : Nat) : Bool := a.has.toNat.testBit t

def Attrs.first (a : Attrs) : Int :=
  match a.path with
  | [] => 0
  | s :: _ => if s.set then 0 else match s.row with
    | [] => 0
    | n :: _ => n
def hopsOf : List Seg → Nat
  | [] => 0
  | s :: r => (if s.set then 1 else s.row.length) + hopsOf r
def Attrs.hops (a : Attrs) : Nat := hopsOf a.path

theorem ofInt_i64 (a : Nat) (ha : a < 9223372036854775808) : (BitVec.ofInt 64 (a : Int)).toNat = a := by
  rw [BitVec.ofInt_natCast, BitVec.toNat_ofNat]; exact Nat.mod_eq_of_lt (by omega)
theorem i64_and_nat (a b : Nat) (ha : a < 9223372036854775808) (hb : b < 9223372036854775808) : bits .and .i64 (a : Int) (b : Int) = ((a &&& b : Nat) : Int) := by
  have hx : a &&& b < 2 ^ 63 := Nat.and_lt_two_pow _ (by omega)
  show IntKind.i64.wrap ((BitVec.ofInt 64 (a : Int) &&& BitVec.ofInt 64 (b : Int)).toNat : Int) = _
  rw [BitVec.toNat_and, ofInt_i64 a ha, ofInt_i64 b hb, IntKind.wrap_i64]
  omega
theorem bit_i64 {x : Int} (h0 : 0 ≤ x) (h1 : x ≤ 9223372036854775807) (t : Nat) : (bits .and .i64 (x / 2 ^ t) 1 == 1) = x.toNat.testBit t := by
  obtain ⟨n, rfl⟩ := Int.eq_ofNat_of_zero_le h0
  have hd : n / 2 ^ t ≤ n := Nat.div_le_self _ _
  have e : ((n : Int) / 2 ^ t) = ((n / 2 ^ t : Nat) : Int) := by simp
  rw [e]
  have h2 := i64_and_nat (n / 2 ^ t) 1 (by omega) (by omega)
  simp only [Int.natCast_one] at h2
  rw [h2, Int.toNat_natCast, Nat.testBit_eq_decide_div_mod_eq, Nat.and_one_is_mod]
  by_cases h : n / 2 ^ t % 2 = 1
  · simp [h]
  · have h3 : n / 2 ^ t % 2 = 0 := by omega
    simp [h3]

set_option maxHeartbeats 400000 in
theorem attr_Is (w : World) (F : Nat → Prop) (cs : List Value) (a : Attrs) (h : attrsR w F cs a) (t : Nat) (h0 : 0 ≤ a.has) (h1 : 1 ≤ t) (h2 : t ≤ 8) :
    Calls Try.prog 31 #[.agg cs.toArray, .int .i64 t] w fun e w' => e = .returned (.bool (a.is t)) ∧ Below w.heap.size w w' := by
  obtain ⟨p, c, o, rfl, hp, hc, ho, hb⟩ := h
  have hh := hb.has
  go_enter Try.func31, Try.ntmps31
  go_wp2
  go_ret
  exact ⟨ret_bool (bit_i64 h0 hh.2 t), (Below.refl _ _).alloc (Nat.le_refl _) _⟩

/-- a constant's place -/
theorem attr_IsK (w : World) (F : Nat → Prop) (cs : List Value) (a : Attrs) (h : attrsR w F cs a) (n : Nat) (t : Int) (ht : t = (n : Int)) (h0 : 0 ≤ a.has) (h1 : 1 ≤ n) (h2 : n ≤ 8) :
    Calls Try.prog 31 #[.agg cs.toArray, .int .i64 t] w fun e w' => e = .returned (.bool (a.is n)) ∧ Below w.heap.size w w' := by
  subst ht
  exact attr_Is w F cs a h n h0 h1 h2

theorem attr_IsT (w : World) (F : Nat → Prop) (cs : List Value) (a : Attrs) (h : attrsR w F cs a) (t : Int) (h0 : 0 ≤ a.has) (h1 : 1 ≤ t) (h2 : t ≤ 8) :
    Calls Try.prog 31 #[.agg cs.toArray, .int .i64 t] w fun e w' => e = .returned (.bool (a.is t.toNat)) ∧ Below w.heap.size w w' :=
  attr_IsK w F cs a h t.toNat t (by omega) h0 (by omega) (by omega)

theorem hopsOf_take {ss : List Seg} {k : Nat} {s : Seg} (h : ss[k]? = some s) : hopsOf (ss.take (k + 1)) = hopsOf (ss.take k) + if s.set then 1 else s.row.length := by
  induction ss generalizing k with
  | nil => simp at h
  | cons x r ih =>
    cases k with
    | zero =>
      simp at h
      subst h
      simp [hopsOf]
    | succ k =>
      have := ih (k := k) (by simpa using h)
      simp only [List.take_succ_cons, hopsOf, this]
      omega
theorem hopsOf_bound {ss : List Seg} (h : ∀ s ∈ ss, s.row.length ≤ 1048576) : hopsOf ss ≤ ss.length * 1048576 := by
  induction ss with
  | nil => simp [hopsOf]
  | cons x r ih =>
    have h1 := ih (fun s hs => h s (by simp [hs]))
    have h2 := h x (by simp)
    simp only [hopsOf, List.length_cons]
    split <;> omega

theorem hopsOf_small {a : Attrs} (h : a.Small) (k : Nat) : hopsOf (a.path.take k) ≤ 1099511627776 := by
  have h1 := hopsOf_bound (ss := a.path.take k) fun s hs => h.segs s (List.mem_of_mem_take hs)
  have h2 : (a.path.take k).length * 1048576 ≤ 1048576 * 1048576 := Nat.mul_le_mul_right _ (by rw [List.length_take]; have := h.path; omega)
  omega

set_option maxHeartbeats 400000 in
theorem attr_Hops (w : World) (F : Nat → Prop) (cs : List Value) (a : Attrs) (h : attrsR w F cs a) (hF : InF F w) (hS : a.Small) :
    Calls Try.prog 30 #[.agg cs.toArray] w fun e w' => e = .returned (.int .i64 a.hops) ∧ Below w.heap.size w w' := by
  obtain ⟨p, c, o, rfl, hp, hc, ho, hb⟩ := h
  obtain ⟨A, C, rfl⟩ := hp.val
  have Hp := Lib.hid hp
  have hn := hS.path
  clear hp hc ho hb
  go_enter Try.func30, Try.ntmps30
  go_wp2
  go_loopw [3, 9] (fun m i wr => ∃ k : Nat, k ≤ a.path.length ∧ i = .int .i64 k ∧ m = .int .i64 (hopsOf (a.path.take k)) ∧ Below w.heap.size w wr) (fun _ i _ => a.path.length - (intOf i).toNat)
  case atStart => exact ⟨0, Nat.zero_le _, rfl, rfl, (Below.refl _ _).alloc (Nat.le_refl _) _⟩
  case round =>
    obtain ⟨k, hk, rfl, rfl, hB⟩ := hrel
    by_cases hlt : k < a.path.length
    · obtain ⟨s, hx⟩ : ∃ s, a.path[k]? = some s := ⟨_, List.getElem?_eq_getElem hlt⟩
      obtain ⟨b, off, cs', rfl, hFb, ⟨v, rfl, hv⟩, hr⟩ := Hp.out.at_ hx
      obtain ⟨A2, C2, rfl⟩ := hv.val
      have c0 := (hB.cell (p := ⟨b, off + k * 2, none⟩) (hF b hFb)).trans (hr 0 _ rfl)
      have c1 := (hB.cell (p := ⟨b, off + k * 2 + 1, none⟩) (hF b hFb)).trans (hr 1 _ rfl)
      have HS := Lib.hid (hopsOf_take hx)
      have hb2 := hopsOf_small hS k
      have hm1 := hS.segs s (List.mem_of_getElem? hx)
      clear hr hx hv
      go_wp2
      · go_roundw
        case rel => exact ⟨k + 1, by omega, by go_num, by rw [HS.out, if_pos ‹_›]; go_num, hB.alloc hB.size _⟩
        case measure => simp [intOf]; omega
      · go_roundw
        case rel => exact ⟨k + 1, by omega, by go_num, by rw [HS.out, if_neg (by simp [*])]; go_num, hB.alloc hB.size _⟩
        case measure => simp [intOf]; omega
    · go_wp2
      go_ret
      exact ⟨ret_int (by rw [List.take_of_length_le (by omega)]; rfl), hB⟩

set_option maxHeartbeats 400000 in
theorem attr_First (w : World) (F : Nat → Prop) (cs : List Value) (a : Attrs) (h : attrsR w F cs a) (hF : InF F w) :
    Calls Try.prog 20 #[.agg cs.toArray] w fun e w' => e = .returned (.int .i64 a.first) ∧ Below w.heap.size w w' := by
  obtain ⟨p, c, o, rfl, hp, hc, ho, hb⟩ := h
  clear hc ho hb
  obtain ⟨A, C, rfl⟩ := hp.val
  generalize hnl : a.path.length = n at hp
  have Hn := Lib.hid hnl
  clear hnl
  by_cases hz : n = 0
  · have e0 : a.first = 0 := by have := Hn.out; simp [Attrs.first, List.eq_nil_of_length_eq_zero (this.trans hz)]
    rw [e0]
    subst hz
    clear hp e0 Hn
    go_enter Try.func20, Try.ntmps20
    go_wp2
    go_ret
    exact ⟨rfl, (Below.refl _ _).alloc (Nat.le_refl _) _⟩
  · obtain ⟨s, r, hq⟩ : ∃ s r, a.path = s :: r := by
      have := Hn.out
      rcases hq : a.path with _ | ⟨s, r⟩
      · rw [hq] at this; exact absurd this.symm hz
      · exact ⟨s, r, rfl⟩
    obtain ⟨b, off, cs', rfl, hFb, ⟨v, rfl, hv⟩, hr⟩ := hp.at_ (k := 0) (x := s) (by rw [hq]; rfl)
    obtain ⟨A2, C2, rfl⟩ := hv.val
    have c0 := hr 0 _ rfl
    have c1 := hr 1 _ rfl
    simp only [Nat.zero_mul, Nat.add_zero] at c0 c1
    have hbl := hF b hFb
    have hn0 : 0 < n := by omega
    have hz : ((n : Int) == 0) = false := beq_eq_false_iff_ne.2 (by omega)
    have ef : a.first = if s.set then 0 else match s.row with
      | [] => 0
      | n :: _ => n := by simp [Attrs.first, hq]
    rw [ef]
    clear hp hq hr ef Hn
    rcases s with ⟨st, row⟩
    generalize hml : row.length = m at hv c1
    dsimp only at hv c0 c1 ⊢
    have Hv := Lib.hid hv
    clear hv
    cases st
    · rcases row with _ | ⟨x, row⟩
      · simp at hml
        subst hml
        clear Hv
        go_enter Try.func20, Try.ntmps20
        go_wp2
        go_ret
        exact ⟨rfl, (Below.refl _ _).alloc (Nat.le_refl _) _⟩
      · obtain ⟨b2, off2, cs2, rfl, hFb2, ⟨rfl, _⟩, hr2⟩ := Hv.out.at_ (k := 0) (x := x) rfl
        have c2 := hr2 0 _ rfl
        have hbl2 := hF b2 hFb2
        simp only [Nat.zero_mul, Nat.add_zero] at c2
        have hm0 : 0 < m := by simp at hml; omega
        have hmz : ((m : Int) == 0) = false := beq_eq_false_iff_ne.2 (by omega)
        clear Hv hml hr2
        go_enter Try.func20, Try.ntmps20
        go_wp2
        go_ret
        exact ⟨rfl, (Below.refl _ _).alloc (Nat.le_refl _) _⟩
    · clear Hv hml
      go_enter Try.func20, Try.ntmps20
      go_wp2
      go_ret
      exact ⟨rfl, (Below.refl _ _).alloc (Nat.le_refl _) _⟩

end Go.Proofs.Ytngfabnkgpidjaa
