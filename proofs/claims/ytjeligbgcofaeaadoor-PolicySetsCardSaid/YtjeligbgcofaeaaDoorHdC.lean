/- Package head: headers as data; Get. -/
import Derived.Test.YtjeligbgcofaeaaDoorHdB
namespace Go.Proofs.YtjeligbgcofaeaaDoor
open Go.RowKit
set_option linter.unusedVariables false
set_option linter.unusedSimpArgs false

structure Hdr where
  port : Int
  src : Mac6
  dst : Mac6
  typ : Int
  sip : Int
  dip : Int
  proto : Int
  sp : Int
  dp : Int
def Hdr.vals (h : Hdr) : List Value := [.int .i64 h.port, .int .u8 h.src.b0, .int .u8 h.src.b1, .int .u8 h.src.b2, .int .u8 h.src.b3, .int .u8 h.src.b4, .int .u8 h.src.b5, .int .u8 h.dst.b0, .int .u8 h.dst.b1, .int .u8 h.dst.b2, .int .u8 h.dst.b3, .int .u8 h.dst.b4, .int .u8 h.dst.b5, .int .i64 h.typ, .int .u32 h.sip, .int .u32 h.dip, .int .i64 h.proto, .int .i64 h.sp, .int .i64 h.dp]
def I64 (x : Int) : Prop := -9223372036854775808 ≤ x ∧ x ≤ 9223372036854775807
def U32 (x : Int) : Prop := 0 ≤ x ∧ x ≤ 4294967295
structure Hdr.Fits (h : Hdr) : Prop where
  port : I64 h.port
  src : h.src.Fits
  dst : h.dst.Fits
  typ : I64 h.typ
  sip : U32 h.sip
  dip : U32 h.dip
  proto : I64 h.proto
  sp : I64 h.sp
  dp : I64 h.dp
def getN (h : Hdr) : Nat → Int
  | 0 => h.port % 256
  | 1 => h.src.num
  | 2 => h.dst.num
  | 3 => h.typ % 65536
  | 4 => h.sip
  | 5 => h.dip
  | 6 => h.proto % 256
  | 7 => h.sp % 65536
  | 8 => h.dp % 65536
  | _ => 0
theorem and_full (v : Int) (n : Nat) (hn : n ≤ 48) : bits .and .u64 (IntKind.u64.wrap v) ((2 ^ n - 1 : Nat) : Int) = v % (2 ^ n : Nat) := by
  have hp1 := Nat.two_pow_pos n
  have hp : 2 ^ n ≤ 2 ^ 48 := Nat.pow_le_pow_right (by omega) hn
  have h48 : (2 : Nat) ^ 48 = 281474976710656 := rfl
  obtain ⟨V, hV⟩ : ∃ V : Nat, IntKind.u64.wrap v = V := ⟨(IntKind.u64.wrap v).toNat, by rw [IntKind.wrap_u64]; omega⟩
  have hV2 : V < 18446744073709551616 := by rw [IntKind.wrap_u64] at hV; omega
  rw [hV]
  show IntKind.u64.wrap ((BitVec.ofInt 64 (V : Int) &&& BitVec.ofInt 64 ((2 ^ n - 1 : Nat) : Int)).toNat : Int) = _
  have e1 : (BitVec.ofInt 64 (V : Int)).toNat = V := by simp; omega
  have e2 : (BitVec.ofInt 64 ((2 ^ n - 1 : Nat) : Int)).toNat = 2 ^ n - 1 := by
    rw [BitVec.toNat_ofInt]
    omega
  rw [BitVec.toNat_and, e1, e2, Nat.and_two_pow_sub_one_eq_mod]
  have hlt : V % 2 ^ n < 2 ^ n := Nat.mod_lt _ hp1
  rw [IntKind.wrap_u64, Int.emod_eq_of_lt (by omega) (by omega)]
  have hd : v % 18446744073709551616 = (V : Int) := by rw [← hV, IntKind.wrap_u64]
  have hdv : ((2 ^ n : Nat) : Int) ∣ 18446744073709551616 := by
    refine ⟨((2 ^ (64 - n) : Nat) : Int), ?_⟩
    rw [← Int.natCast_mul, ← Nat.pow_add, show n + (64 - n) = 64 by omega]
    rfl
  rw [Int.natCast_emod, ← hd, Int.emod_emod_of_dvd _ hdv]
theorem num_bd {m : Mac6} (hm : m.Fits) : 0 ≤ m.num ∧ m.num < 281474976710656 := by
  have := numL_bd 6 m.l rfl hm
  have e : (256 : Int) ^ 6 = 281474976710656 := by decide
  unfold Mac6.num
  omega
theorem and_fullS (v : Int) (n : Nat) (hn : n ≤ 48) (h0 : 0 ≤ v) (h1 : v < (2 ^ n : Nat)) : bits .and .u64 v ((2 ^ n - 1 : Nat) : Int) = v := by
  have hp : 2 ^ n ≤ 2 ^ 48 := Nat.pow_le_pow_right (by omega) hn
  have h48 : (2 : Nat) ^ 48 = 281474976710656 := rfl
  have := and_full v n hn
  rw [IntKind.wrap_u64, Int.emod_eq_of_lt h0 (by omega)] at this
  rw [this, Int.emod_eq_of_lt h0 h1]
set_option maxRecDepth 100000 in
set_option maxHeartbeats 4000000 in
theorem hd_Get (h : Hdr) (k : Nat) (w : World) (hT : Tab w) (hf : h.Fits) (hk : k < 9) :
    Calls Tryd.prog 13 #[.agg h.vals.toArray, .int .i64 (k : Int)] w fun e w' => e = .returned (.int .u64 (getN h k)) ∧ Grn w w' := by
  have HBw := Lib.hid (show Grn w (w.alloc (.cells h.vals.toArray 31)) from (Grn.refl _).alloc _)
  have HF := Lib.hid hf
  have HC := Lib.hid (fun (f : Int) (hfk : f = k) W (h : Below w.heap.size w W) => (show Calls Tryd.prog 27 #[.int .i64 f] W _ from hfk ▸ hd_Full k W (hT.below h) hk))
  have HS := Lib.hid (fun W => hd_Num h.src W hf.src)
  have HD := Lib.hid (fun W => hd_Num h.dst W hf.dst)
  obtain ⟨port, ⟨s0, s1, s2, s3, s4, s5⟩, ⟨d0, d1, d2, d3, d4, d5⟩, typ, sip, dip, proto, sp, dp⟩ := h
  have hkc : k = 0 ∨ k = 1 ∨ k = 2 ∨ k = 3 ∨ k = 4 ∨ k = 5 ∨ k = 6 ∨ k = 7 ∨ k = 8 := by omega
  clear hT hf hk
  simp only [Hdr.vals] at HBw ⊢
  have hV := HBw.out
  clear HBw
  rcases hkc with rfl | rfl | rfl | rfl | rfl | rfl | rfl | rfl | rfl
  all_goals
    go_enter Tryd.func13, Tryd.ntmps13
    go_wp2_with (first
      | (go_at_call 39; (with_reducible refine (HS.out _).mono ?_); rintro e u ⟨rfl, hb⟩; replace hV := hV.trans hb; clear hb)
      | (go_at_call 39; (with_reducible refine (HD.out _).mono ?_); rintro e u ⟨rfl, hb⟩; replace hV := hV.trans hb; clear hb)
      | (go_at_call 27; (with_reducible refine (HC.out _ ?_ _ hV.below).mono ?_); rfl; rintro e u ⟨rfl, rfl⟩)
      | fail)
    go_ret
    refine ⟨ret_int ?_, hV⟩
  · exact (and_full port 8 (by omega)).trans rfl
  · exact and_fullS _ 48 (by omega) (num_bd HF.out.src).1 (num_bd HF.out.src).2
  · exact and_fullS _ 48 (by omega) (num_bd HF.out.dst).1 (num_bd HF.out.dst).2
  · exact (and_full typ 16 (by omega)).trans rfl
  · exact (and_full sip 32 (by omega)).trans (by have := HF.out.sip; unfold U32 at this; simp only at this; exact Int.emod_eq_of_lt this.1 (by show sip < 4294967296; omega))
  · exact (and_full dip 32 (by omega)).trans (by have := HF.out.dip; unfold U32 at this; simp only at this; exact Int.emod_eq_of_lt this.1 (by show dip < 4294967296; omega))
  · exact (and_full proto 8 (by omega)).trans rfl
  · exact (and_full sp 16 (by omega)).trans rfl
  · exact (and_full dp 16 (by omega)).trans rfl
end Go.Proofs.YtjeligbgcofaeaaDoor
