/- Package head: Width, Full; the table of widths. -/
import Derived.Test.YtjeligbgcofaeaaDoorLib4
import Derived.BigQuiet
import Derived.Deep.QuietTactic
import Derived.Deep.RegionHeld3
import Derived.Deep.DeepCutAuto
import Derived.Deep.CutBlock
namespace Go.Proofs.YtjeligbgcofaeaaDoor
open Go.RowKit
set_option linter.unusedVariables false
set_option linter.unusedSimpArgs false

def widthN (k : Nat) : Nat := [8, 48, 48, 16, 32, 32, 8, 16, 16].getD k 0
/-- the package's table lies as its initialiser lays it -/
def Tab (w : World) : Prop := ∀ k, k < 9 → w.cell? ⟨0, k, none⟩ = some (.int .i64 (widthN k : Int))
theorem Tab.lt {w : World} (h : Tab w) : 0 < w.heap.size := World.block_lt_of_cell? w ⟨0, 0, none⟩ (h 0 (by omega))
theorem Tab.below {w w' : World} (h : Tab w) (hb : Below w.heap.size w w') : Tab w' := fun k hk => (hb.cell (p := ⟨0, k, none⟩) h.lt).trans (h k hk)
theorem widthN_bd {k : Nat} (hk : k < 9) : 8 ≤ widthN k ∧ widthN k ≤ 48 := by
  match k, hk with
  | 0, _ => decide
  | 1, _ => decide
  | 2, _ => decide
  | 3, _ => decide
  | 4, _ => decide
  | 5, _ => decide
  | 6, _ => decide
  | 7, _ => decide
  | 8, _ => decide
theorem hd_Width (k : Nat) (w : World) (hT : Tab w) (hk : k < 9) :
    Calls Tryd.prog 47 #[.int .i64 (k : Int)] w fun e w' => e = .returned (.int .i64 (widthN k : Int)) ∧ w' = w := by
  have d1 : decide ((k : Int) < 0) = false := decide_eq_false (by omega)
  have d2 : decide ((k : Int) ≥ 9) = false := decide_eq_false (by omega)
  have hk0 : (0 : Int) ≤ (k : Int) := by omega
  have hk9 : (k : Int) < 9 := by omega
  have hc := hT k hk
  have HT := Lib.hid hT
  clear hT
  go_enter Tryd.func47, Tryd.ntmps47
  go_wp2_with fail
  go_ret
  exact ⟨rfl, rfl⟩
def fullN (k : Nat) : Nat := 2 ^ widthN k - 1
set_option maxRecDepth 100000 in
theorem hd_Full (k : Nat) (w : World) (hT : Tab w) (hk : k < 9) :
    Calls Tryd.prog 27 #[.int .i64 (k : Int)] w fun e w' => e = .returned (.int .u64 (fullN k : Int)) ∧ w' = w := by
  have hb := widthN_bd hk
  have HW := Lib.hid (hd_Width k w hT hk)
  obtain ⟨n, hn⟩ : ∃ n, n = widthN k := ⟨_, rfl⟩
  rw [← hn] at hb HW
  have HN := Lib.hid hn
  have hp : 2 ^ n ≤ 2 ^ 48 := Nat.pow_le_pow_right (by omega) hb.2
  have hp1 := Nat.two_pow_pos n
  clear hn hT
  go_enter Tryd.func27, Tryd.ntmps27
  go_wp2_with fail
  refine HW.out.mono ?_
  rintro e w' ⟨rfl, rfl⟩
  go_wp2_with fail
  go_ret
  refine ⟨ret_int ?_, rfl⟩
  have e1 : (2 : Int) ^ n = ((2 ^ n : Nat) : Int) := by rw [Int.natCast_pow]; rfl
  unfold fullN
  rw [← HN.out, e1, IntKind.wrap_u64, IntKind.wrap_u64]
  have : (2 : Nat) ^ 48 = 281474976710656 := rfl
  omega
/-- new blocks and draws alone -/
structure Grn (w w' : World) : Prop where
  below : Below w.heap.size w w'
  drawn : w.drawn ≤ w'.drawn
theorem Grn.refl (w : World) : Grn w w := ⟨Below.refl _ _, Nat.le_refl _⟩
theorem Grn.trans {a b c : World} (h : Grn a b) (k : Grn b c) : Grn a c := ⟨below_step h.below k.below, Nat.le_trans h.drawn k.drawn⟩
theorem Grn.alloc {w w' : World} (h : Grn w w') (o : Obj) : Grn w (w'.alloc o) := ⟨h.below.alloc h.below.size _, h.drawn⟩
theorem Grn.drew {w w' : World} (h : Grn w w') : Grn w w'.drew := ⟨h.below.drew, Nat.le_succ_of_le h.drawn⟩
structure Mac6 where
  b0 : Int
  b1 : Int
  b2 : Int
  b3 : Int
  b4 : Int
  b5 : Int
def Mac6.l (m : Mac6) : List Int := [m.b0, m.b1, m.b2, m.b3, m.b4, m.b5]
def Mac6.Fits (m : Mac6) : Prop := ∀ b ∈ m.l, 0 ≤ b ∧ b ≤ 255
def numL (bs : List Int) : Int := bs.foldl (fun n b => n * 256 + b) 0
def Mac6.num (m : Mac6) : Int := numL m.l
theorem numL_snoc (bs : List Int) (b : Int) : numL (bs ++ [b]) = numL bs * 256 + b := by simp [numL]
theorem numL_bd : ∀ (n : Nat) (bs : List Int), bs.length = n → (∀ b ∈ bs, 0 ≤ b ∧ b ≤ 255) → 0 ≤ numL bs ∧ numL bs < 256 ^ n
  | 0, bs, hl, _ => by
    obtain rfl : bs = [] := List.eq_nil_of_length_eq_zero hl
    simp [numL]
  | n + 1, bs, hl, h => by
    obtain ⟨cs, b, rfl⟩ : ∃ cs b, bs = cs ++ [b] := ⟨bs.dropLast, bs.getLast (by intro e; subst e; simp at hl), (List.dropLast_concat_getLast _).symm⟩
    have ih := numL_bd n cs (by simp at hl; exact hl) fun x hx => h x (by simp [hx])
    have hb := h b (by simp)
    rw [numL_snoc, Int.pow_succ]
    omega
theorem or_shl (n b : Int) (hn : 0 ≤ n ∧ n < 1099511627776) (hb : 0 ≤ b ∧ b ≤ 255) : bits .or .u64 (n * 256) b = n * 256 + b := by
  obtain ⟨N, rfl⟩ : ∃ N : Nat, n = N := ⟨n.toNat, by omega⟩
  obtain ⟨B, rfl⟩ : ∃ B : Nat, b = B := ⟨b.toNat, by omega⟩
  show IntKind.u64.wrap ((BitVec.ofInt 64 ((N : Int) * 256) ||| BitVec.ofInt 64 (B : Int)).toNat : Int) = _
  have e1 : (BitVec.ofInt 64 ((N : Int) * 256)).toNat = 2 ^ 8 * N := by
    have : ((N : Int) * 256) = ((2 ^ 8 * N : Nat) : Int) := by omega
    rw [this]
    simp
    omega
  have e2 : (BitVec.ofInt 64 (B : Int)).toNat = B := by
    simp
    omega
  rw [BitVec.toNat_or, e1, e2, ← Nat.two_pow_add_eq_or_of_lt (i := 8) (b := B) (by omega) N, IntKind.wrap_u64]
  omega
set_option maxRecDepth 100000 in
set_option maxHeartbeats 2000000 in
theorem hd_Num (m : Mac6) (w : World) (hm : m.Fits) :
    Calls Tryd.prog 39 #[.agg #[.int .u8 m.b0, .int .u8 m.b1, .int .u8 m.b2, .int .u8 m.b3, .int .u8 m.b4, .int .u8 m.b5]] w fun e w' => e = .returned (.int .u64 m.num) ∧ Grn w w' := by
  have HM := Lib.hid hm
  obtain ⟨b0, b1, b2, b3, b4, b5⟩ := m
  have hb : ∀ b ∈ [b0, b1, b2, b3, b4, b5], 0 ≤ b ∧ b ≤ 255 := hm
  have HB := Lib.hid hb
  have HBw : Hid (Grn w (w.alloc (.cells #[.int .u8 b0, .int .u8 b1, .int .u8 b2, .int .u8 b3, .int .u8 b4, .int .u8 b5] 27))) := Lib.hid ((Grn.refl _).alloc _)
  have hix : ∀ (j : Nat) (b : Int), [b0, b1, b2, b3, b4, b5][j]? = some b → ∀ w, (Instr.index 27 (.agg #[.int .u8 b0, .int .u8 b1, .int .u8 b2, .int .u8 b3, .int .u8 b4, .int .u8 b5]) (.int .i64 (j : Int))).run Tryd.prog w = .ok (.int .u8 b) w := fun j b hj w => by
    match j, hj with
    | 0, rfl => rfl
    | 1, rfl => rfl
    | 2, rfl => rfl
    | 3, rfl => rfl
    | 4, rfl => rfl
    | 5, rfl => rfl
  have HIX := Lib.hid hix
  obtain ⟨bs, hbs⟩ : ∃ bs, bs = [b0, b1, b2, b3, b4, b5] := ⟨_, rfl⟩
  have HBS := Lib.hid hbs
  rw [← hbs] at HB HIX
  have hlen : bs.length = 6 := by rw [hbs]; rfl
  have HLEN := Lib.hid hlen
  have HE : Hid ((Mac6.mk b0 b1 b2 b3 b4 b5).num = numL bs) := Lib.hid (by rw [hbs]; rfl)
  clear hm hb hix hbs hlen
  go_enter Tryd.func39, Tryd.ntmps39
  go_wp2_with fail
  go_loopw [3, 7] (fun n i wr => ∃ k : Nat, ∃ v : Int, k ≤ 6 ∧ i = .int .i64 k ∧ n = .int .u64 v ∧ Hid (v = numL (bs.take k)) ∧ Grn w wr) (fun _ i _ => 6 - (intOf i).toNat)
  case atStart => exact ⟨0, 0, by omega, rfl, rfl, Lib.hid (by simp [numL]), HBw.out⟩
  case round =>
    obtain ⟨k, v, hk, rfl, rfl, HV, hB⟩ := hrel
    by_cases hlt : k < 6
    · obtain ⟨b, hbx⟩ : ∃ b, bs[k]? = some b := ⟨_, List.getElem?_eq_getElem (by rw [HLEN.out]; exact hlt)⟩
      have hbb := HB.out b (List.mem_of_getElem? hbx)
      have hvb := numL_bd k (bs.take k) (by rw [List.length_take, HLEN.out]; omega) fun x hx => HB.out x (List.mem_of_mem_take hx)
      have hp : (256 : Int) ^ k ≤ 1099511627776 := by
        have h1 := Nat.pow_le_pow_right (n := 256) (by omega) (show k ≤ 5 by omega)
        have e : (256 : Int) ^ k = ((256 ^ k : Nat) : Int) := by rw [Int.natCast_pow]; rfl
        rw [e]
        omega
      have hv0 : 0 ≤ v := by rw [HV.out]; exact hvb.1
      have hv1 : v < 1099511627776 := by rw [HV.out]; omega
      have hi := HIX.out k b hbx
      have HN : Hid (v * 256 + b = numL (bs.take (k + 1))) := Lib.hid (by rw [take_snoc hbx, numL_snoc, HV.out])
      have HO := Lib.hid (or_shl v b ⟨hv0, hv1⟩ hbb)
      have hb0' := hbb.1
      have hb1' := hbb.2
      clear hbx hbb hvb hp
      go_wp2_with fail
      go_roundw
      case rel => exact ⟨k + 1, _, by omega, by go_num, rfl, Lib.hid (by rw [← HN.out, ← HO.out]), hB⟩
      case measure => simp [intOf]; omega
    · have hkk : bs.take k = bs := List.take_of_length_le (by have := HLEN.out; omega)
      rw [hkk] at HV
      go_wp2_with fail
      go_ret
      exact ⟨ret_int (by rw [HE.out, HV.out]), hB⟩
end Go.Proofs.YtjeligbgcofaeaaDoor
