/- The reference's Bits, Right, Has. -/
import Derived.Test.YthiodgnklfbmjaaPsU
namespace Go.Proofs.Ythiodgnklfbmjaa
open Go.RowKit
set_option linter.unusedVariables false
set_option linter.unusedSimpArgs false

def bits0 (a k : Nat) : List Int := (List.range k).reverse.map fun i => ((a / 2 ^ i % 2 : Nat) : Int)
theorem bits0_len (a k : Nat) : (bits0 a k).length = k := by simp [bits0]
theorem bits0_succ (a k : Nat) : bits0 a (k + 1) = ((a / 2 ^ k % 2 : Nat) : Int) :: bits0 a k := by
  simp [bits0, List.range_succ]
theorem bits0_get {a k i : Nat} (h : i < k) : (bits0 a k)[i]? = some ((a / 2 ^ (k - 1 - i) % 2 : Nat) : Int) := by
  unfold bits0
  rw [List.getElem?_map, List.getElem?_reverse (by simpa using h), List.length_range, List.getElem?_range (by omega)]
  rfl
theorem int_info : (Try.prog.info? 3).map (fun i => (i.zero, i.size, i.bytes)) = some (some (.int .i64 0), 1, 8) := by kernel_rfl
theorem own_int1 {w : World} {F : Nat → Prop} (x : Int) (hx : IntKind.i64.min ≤ x ∧ x ≤ IntKind.i64.max) (hF : InF F w) : ownR 3 1 (intR .i64) (w.alloc (.cells #[.int .i64 x] 3)) F w.heap.size (.slice (some ⟨w.heap.size, 0, none⟩) 1 1) [x] :=
  ⟨[.int .i64 x], blk_ownsRow (T := []) (Blk.new w 3 #[.int .i64 x]) (Nat.le_refl _) (Nat.le_refl _) (by unfold maxLen; omega) rfl rfl, Groups.single ⟨rfl, hx⟩, fun g hg h => by cases hg; exact absurd (hF _ h) (Nat.lt_irrefl _)⟩
def BitsPost (w : World) (F : Nat → Prop) (a : Nat) (e : Ending) (w' : World) : Prop := ∃ b off c F', e = .returned (.slice (some ⟨b, off, none⟩) 32 c) ∧ Grew w F w' F' ∧ listR 1 (intR .i64) w' F' [.slice (some ⟨b, off, none⟩) 32 c] (bits0 a 32)
set_option maxRecDepth 100000 in
set_option maxHeartbeats 2000000 in
theorem ref_Bits (w : World) (F : Nat → Prop) (a : Nat) (ha : a < 4294967296) (hF : InF F w) : Calls Try.prog 36 #[.int .u32 (a : Int)] w (BitsPost w F a) := by
  obtain ⟨ii, hii, hi0, hi1, hi2⟩ := info_parts int_info
  have HG0 : Hid (Grew w F (w.alloc (.cells #[] 3)) F ∧ listR 1 (intR .i64) (w.alloc (.cells #[] 3)) F [.slice (some ⟨w.heap.size, 0, none⟩) 0 0] (bits0 a 0)) := Lib.hid ⟨(Grew.refl hF).alloc _, ⟨_, 0, rfl, Nat.le_refl _, by unfold maxLen; omega, fun k x hx => by simp [bits0] at hx⟩⟩
  go_enter Try.func36, Try.ntmps36
  go_wp2_with fail
  go_loopw [3, 4, 0] (fun o i d wr => ∃ A m c F1, ∃ k q : Nat, k ≤ 32 ∧ i = .int .i64 k ∧ q < 4294967296 ∧ d = .int .u32 (q : Int) ∧ o = .slice A m c ∧ Hid (q = a / 2 ^ k) ∧ Hid (Grew w F wr F1 ∧ listR 1 (intR .i64) wr F1 [.slice A m c] (bits0 a k))) (fun _ i _ _ => 32 - (intOf i).toNat)
  case atStart => exact ⟨_, _, _, F, 0, a, by omega, rfl, ha, rfl, rfl, Lib.hid (by simp), HG0⟩
  case round =>
    clear HG0
    obtain ⟨A, m, c, F1, k, q, hk, rfl, hq, rfl, rfl, HQ, HS⟩ := hrel
    have hm : m = k := by have := HS.out.2.len.1; rw [bits0_len] at this; exact this
    by_cases hlt : k < 32
    · have hxb : IntKind.i64.min ≤ (q : Int) % 2 ∧ (q : Int) % 2 ≤ IntKind.i64.max := by
        have : IntKind.i64.min = -9223372036854775808 ∧ IntKind.i64.max = 9223372036854775807 := by decide
        omega
      have hFr := HS.out.1.lt
      have hal : Below wr.heap.size wr (wr.alloc (.cells #[.int .i64 ((q : Int) % 2)] 3)) := (Below.refl _ _).alloc (Nat.le_refl _) _
      have HO := Lib.hid (own_int1 (w := wr) ((q : Int) % 2) hxb hFr)
      have HL := Lib.hid ((listR_ok (intR_ok .i64)).below HS.out.2 hal hFr)
      have HF1 := Lib.hid (hFr.below hal)
      have HG1 := Lib.hid (HS.out.1.alloc (.cells #[.int .i64 ((q : Int) % 2)] 3))
      have h63 : Hid ([(q : Int) % 2].length + m ≤ 9223372036854775807) := by show _ ≤ _; simp; omega
      have h64 : Hid (([(q : Int) % 2].length + m) * 8 ≤ 140737488355328) := by show _ ≤ _; simp; omega
      have hbs : Hid (wr.heap.size ≤ (wr.alloc (.cells #[.int .i64 ((q : Int) % 2)] 3)).heap.size) := by show _ ≤ _; simp
      have hsz : Hid (w.heap.size ≤ wr.heap.size) := Lib.hid HS.out.1.below.size
      clear hal hFr hxb
      go_wp2_with (at_builtin; refine wpList_pushA _ rfl (.tmp 13) (.tmp 14) 72 rfl (intR_ok .i64) wr.heap.size 3 ii _ 8 Try.underlying72 hii hi0 hi1 hi2 rfl (by decide) F1 _ [(q : Int) % 2] rfl HO.out A m c _ rfl HL.out HF1.out h63.out h64.out hbs.out ?_)
      intro v5 w5 hv5 hg5 hn5
      obtain ⟨A5, c5, rfl⟩ := hv5.form
      have HR5 : Hid (Grew w F w5 (fun b => F1 b ∨ (Value.slice A5 ((q : Int) % 2 :: bits0 a k).length c5).ownBlock = some b) ∧ listR 1 (intR .i64) w5 (fun b => F1 b ∨ (Value.slice A5 ((q : Int) % 2 :: bits0 a k).length c5).ownBlock = some b) [.slice A5 ((q : Int) % 2 :: bits0 a k).length c5] (bits0 a (k + 1))) := by
        have h1 : (q : Int) % 2 :: bits0 a k = bits0 a (k + 1) := by
          rw [bits0_succ, ← HQ.out]
          simp
        have h2 := (HG1.out.grown hg5 fun g e => by cases e; exact hsz.out).own hv5 hsz.out
        have h3 := hv5.freeze (intR_ok .i64)
        rw [h1] at h2 h3 ⊢
        exact Lib.hid ⟨h2, h3⟩
      have HQ5 : Hid (q / 2 = a / 2 ^ (k + 1)) := Lib.hid (by rw [HQ.out, Nat.div_div_eq_div_mul, Nat.pow_succ])
      clear hv5 hg5 hn5
      go_wp2_with fail
      go_roundw
      case rel => exact ⟨_, _, _, _, k + 1, q / 2, by omega, by go_num, by omega, by go_num, rfl, HQ5, HR5⟩
      case measure => simp [intOf]; omega
    · obtain rfl : k = 32 := by omega
      subst hm
      have hne : ∃ b off, A = some ⟨b, off, none⟩ := by
        obtain ⟨b, off, cs, h, _⟩ := HS.out.2.at_ (k := 0) (x := ((a / 2 ^ 31 % 2 : Nat) : Int)) (bits0_get (a := a) (k := 32) (i := 0) (by omega))
        exact ⟨b, off, h⟩
      obtain ⟨b, off, rfl⟩ := hne
      go_wp2_with fail
      go_ret
      exact ⟨b, off, c, F1, rfl, HS.out.1, HS.out.2⟩
theorem run_from (b off n lo c : Nat) (hlo : lo ≤ n) (hc : n ≤ c) (hm : c ≤ 9223372036854775807) (w : World) : (Instr.slice 72 (.slice (some ⟨b, off, none⟩) n c) (some (.int .i64 (lo : Int))) none none).run Try.prog w = .ok (.slice (if c = lo then some ⟨b, off, none⟩ else some ⟨b, off + lo, none⟩) (n - lo) (c - lo)) w := by
  by_cases h : c = lo
  · subst h
    rw [if_pos rfl]
    go_simp
  · rw [if_neg h]
    go_simp
end Go.Proofs.Ythiodgnklfbmjaa
