/- The law PsetFull. -/
import Derived.Test.YthiodgnklfbmjaaPsT
namespace Go.Proofs.Ythiodgnklfbmjaa
open Go.RowKit
set_option linter.unusedVariables false
set_option linter.unusedSimpArgs false

theorem and31 (a : Int) : ∃ n : Nat, n ≤ 31 ∧ bits .and .i64 a 31 = (n : Int) := by
  have h : (BitVec.ofInt 64 a &&& BitVec.ofInt 64 31).toNat ≤ 31 := by
    rw [BitVec.toNat_and]
    exact Nat.le_trans Nat.and_le_right (by decide +kernel)
  refine ⟨(BitVec.ofInt 64 a &&& BitVec.ofInt 64 31).toNat, h, ?_⟩
  show IntKind.i64.wrap ((BitVec.ofInt 64 a &&& BitVec.ofInt 64 31).toNat : Int) = _
  rw [IntKind.wrap_i64]
  omega
theorem and15 (a : Int) : ∃ n : Nat, n ≤ 15 ∧ bits .and .i64 a 15 = (n : Int) := by
  have h : (BitVec.ofInt 64 a &&& BitVec.ofInt 64 15).toNat ≤ 15 := by
    rw [BitVec.toNat_and]
    exact Nat.le_trans Nat.and_le_right (by decide +kernel)
  refine ⟨(BitVec.ofInt 64 a &&& BitVec.ofInt 64 15).toNat, h, ?_⟩
  show IntKind.i64.wrap ((BitVec.ofInt 64 a &&& BitVec.ofInt 64 15).toNat : Int) = _
  rw [IntKind.wrap_i64]
  omega
def fP (i : Nat) : Pfx := ⟨(i : Int) * 256, 24⟩
def fullL (n : Nat) : List Pfx := (List.range n).map fP
theorem fullL_len (n : Nat) : (fullL n).length = n := by simp [fullL]
theorem fullL_get {n i : Nat} (h : i < n) : (fullL n)[i]? = some (fP i) := by simp [fullL, h]
theorem fullL_succ (n : Nat) : fullL (n + 1) = fullL n ++ [fP n] := by simp [fullL, List.range_succ]
theorem fullL_mem {n : Nat} {p : Pfx} : p ∈ fullL n ↔ ∃ i, i < n ∧ fP i = p := by simp [fullL]
theorem fP_fits {i : Nat} (h : i ≤ 65536) : (fP i).Fits := ⟨by simp only [fP]; omega, by simp only [fP]; omega⟩
theorem fP_good {i : Nat} (h : i ≤ 65536) : (fP i).good = true := by
  have h1 := good_nat (i * 256) 8 (by omega) (by omega)
  have h2 : fP i = ⟨((i * 256 : Nat) : Int), 32 - ((8 : Nat) : Int)⟩ := by simp only [fP]; congr 1
  rw [h2, h1]
  exact decide_eq_true (by omega)
theorem fullL_sorted (n : Nat) : sortedP (fullL n) := by
  induction n with
  | zero => exact .nil
  | succ n ih =>
    rw [fullL_succ]
    refine List.pairwise_append.2 ⟨ih, by simp, fun a ha b hb => ?_⟩
    obtain ⟨i, hi, rfl⟩ := fullL_mem.1 ha
    simp at hb
    subst hb
    rw [cmpP_lt]
    left
    simp only [fP]
    omega
def fullX (n k : Nat) : List Pfx := fullL n ++ (fullL n).take k
theorem fullX_zero (n : Nat) : fullX n 0 = fullL n := by simp [fullX]
theorem fullX_succ {n k : Nat} (h : k < n) : fullX n (k + 1) = fullX n k ++ [fP k] := by
  unfold fullX
  rw [take_snoc (fullL_get h), List.append_assoc]
theorem fullX_len {n k : Nat} (h : k ≤ n) : (fullX n k).length = n + k := by
  unfold fullX
  rw [List.length_append, List.length_take, fullL_len, Nat.min_eq_left h]
theorem fullX_mem {n k : Nat} {p : Pfx} : p ∈ fullX n k ↔ p ∈ fullL n := by
  unfold fullX
  rw [List.mem_append]
  exact ⟨fun h => h.elim id fun h => List.mem_of_mem_take h, .inl⟩
theorem full_of {n k : Nat} (hn : n ≤ 4111) (hk : k ≤ 15) : ofE (fullX n k) = (if 4096 < n then 3 else 0) ∧ ofL (fullX n k) = (if 4096 < n then [] else fullL n) := by
  have hkn : (fullX n k).length ≤ 16384 := by unfold fullX; rw [List.length_append, List.length_take, fullL_len]; omega
  have hg : (fullX n k).all Pfx.good = true := List.all_eq_true.2 fun p hp => by
    obtain ⟨i, hi, rfl⟩ := fullL_mem.1 (fullX_mem.1 hp)
    exact fP_good (by omega)
  have h1 := compactN_spec (sortL_sorted (fullX n k)) (fullX n k).length (by rw [sortL_len]; exact Nat.le_refl _)
  have h2 : compactN (sortL (fullX n k)) (fullX n k).length = fullL n := sorted_unique h1.1 (fullL_sorted n) fun p => by
    rw [h1.2.1 p, List.take_of_length_le (by rw [sortL_len]; exact Nat.le_refl _), (sortL_perm _).mem_iff, fullX_mem]
  have h3 : ofE (fullX n k) = if 4096 < n then 3 else 0 := by
    unfold ofE
    rw [if_neg (by omega), if_pos hg, h2, fullL_len]
  refine ⟨h3, ?_⟩
  unfold ofL
  rw [h3, h2]
  by_cases h4 : 4096 < n
  · rw [if_pos h4, if_pos h4]; rfl
  · rw [if_neg h4, if_neg h4]; rfl
def oneP : Pfx := ⟨2147483648, 1⟩
theorem one_of : ofE [oneP] = 0 ∧ ofL [oneP] = [oneP] := head_of (by simp) (by rfl) (by simp [sortedP]) (by simp)
theorem full_or {n : Nat} (hn : n ≤ 4096) : mergeE (mergeL kOr (fullL n) [oneP]) = if n = 4096 then 3 else 0 := by
  have h1 := (merge_lens _ (fullL n) [oneP] (Nat.le_refl _)).1
  have h2 := (merge_spec kAnd _ (fullL n) [oneP] (Nat.le_refl _) (fullL_sorted n) (by simp [sortedP])).1
  have h3 : mergeL kAnd (fullL n) [oneP] = [] := List.eq_nil_iff_forall_not_mem.2 fun p hp => by
    have h4 := ((h2 p).1 hp).2
    unfold kAnd at h4
    rw [Bool.and_eq_true] at h4
    have h5 := memP_iff.1 h4.1
    have h6 := memP_iff.1 h4.2
    simp at h6
    subst h6
    obtain ⟨i, hi, he⟩ := fullL_mem.1 h5
    simp only [fP, oneP, Pfx.mk.injEq] at he
    omega
  rw [h3, fullL_len] at h1
  simp at h1
  unfold mergeE
  rw [h1]
  by_cases h : n = 4096
  · rw [if_pos h, if_pos (by omega)]
  · rw [if_neg h, if_neg (by omega)]

structure FullR (w W : World) (v : Value) (xs : List Pfx) : Prop where
  below : Below w.heap.size w W
  own : ownR 35 2 pfxR W NoF w.heap.size v xs
theorem FullR.made {w w1 : World} (h : Below w.heap.size w w1) : FullR w (w1.alloc (.cells #[] 35)) (.slice (some ⟨w1.heap.size, 0, none⟩) 0 0) [] :=
  ⟨h.alloc h.size _, ownR.made w1 _ h.size (noF_in _)⟩
theorem FullR.push {w wr w' : World} {v v' : Value} {xs ys : List Pfx} {ob : Obj} (h : FullR w wr v xs) (hv : ownR 35 2 pfxR w' NoF w.heap.size v' ys) (hg : (wr.alloc ob).grownBy w' v.ownBlock) : FullR w w' v' ys :=
  ⟨below_grownO (h.below.alloc h.below.size ob) hg fun g e => (h.own.lt g e).1, hv⟩
structure FullN (w wr : World) (v : Value) (xs : List Pfx) (q : Pfx) : Prop where
  own : ownR 35 2 pfxR (wr.alloc (.cells #[.int .u32 q.addr, .int .i64 q.len] 35)) NoF w.heap.size v xs
  news : ∀ j u, [Value.int .u32 q.addr, .int .i64 q.len][j]? = some u → (wr.alloc (.cells #[.int .u32 q.addr, .int .i64 q.len] 35)).cell? (Addr.add ⟨wr.heap.size, 0, none⟩ j) = some u
  one : Groups pfxR (wr.alloc (.cells #[.int .u32 q.addr, .int .i64 q.len] 35)) NoF [.int .u32 q.addr, .int .i64 q.len] [q]
  base : w.heap.size ≤ (wr.alloc (.cells #[.int .u32 q.addr, .int .i64 q.len] 35)).heap.size
theorem FullR.news {w wr : World} {v : Value} {xs : List Pfx} (h : FullR w wr v xs) (q : Pfx) (hq : q.Fits) : FullN w wr v xs q :=
  ⟨h.own.below pfxR_ok ((Below.refl _ _).alloc (Nat.le_refl _) _) (noF_in _), cells_row_new wr 35 [.int .u32 q.addr, .int .i64 q.len], Groups.single ⟨rfl, hq⟩, by have := h.below.size; simp; omega⟩
set_option maxRecDepth 100000 in
set_option maxHeartbeats 8000000 in
theorem law_PsetFull (w : World) (a b : Int) :
    Calls Try.prog 7 #[.int .i64 a, .int .i64 b] w fun e w' => e = .returned (.bool true) ∧ Below w.heap.size w w' := by
  obtain ⟨n0, hn0, ha⟩ := and31 a
  obtain ⟨tw, htw, hb⟩ := and15 b
  obtain ⟨ip_, hip, hp0, hp1, hp2⟩ := info_parts pfx_info
  go_enter Try.func7, Try.ntmps7
  go_wp2_with fail
  refine (law_head w).mono ?_
  rintro e w1 ⟨rfl, hB1⟩
  have HB1 := Lib.hid hB1
  clear hB1
  go_upto_region 5 with fail
  obtain ⟨n, hn⟩ : ∃ n, n = 4080 + n0 := ⟨_, rfl⟩
  have en : (4080 : Int) + (n0 : Int) = (n : Int) := by omega
  rw [en]
  have hnn : n ≤ 4111 := by omega
  have hnn2 : 4080 ≤ n := by omega
  clear en hn ha hb hn0
  have HM := Lib.hid (FullR.made HB1.out)
  go_upto_region 6 with fail
  refine wp_gen (fun W => FullR w W _ _) HM.out ?_
  intro W hW
  have HW := Lib.hid hW
  clear hW HM HB1
  go_wp2_with fail
  go_loopw [5, 6] (fun v i wr => ∃ A m c, ∃ k : Nat, k ≤ n ∧ i = .int .i64 k ∧ v = .slice A m c ∧ Hid (FullR w wr (.slice A m c) (fullL k))) (fun _ i _ => n - (intOf i).toNat)
  case atStart => exact ⟨_, _, _, 0, Nat.zero_le _, rfl, rfl, HW⟩
  case round =>
    obtain ⟨A, m, c, k, hk, rfl, rfl, HR⟩ := hrel
    by_cases hlt : k < n
    · have hkm : m = k := by have := HR.out.own.len; rw [fullL_len] at this; exact this
      subst hkm
      have HX := Lib.hid (HR.out.news (fP m) (fP_fits (by omega)))
      have h63 : Hid ((fullL m).length + 1 ≤ 9223372036854775807) := by show _ ≤ _; rw [fullL_len]; omega
      have h64 : Hid (((fullL m).length + 1) * 16 ≤ 140737488355328) := by show _ ≤ _; rw [fullL_len]; omega
      go_wp2_with (at_builtin; refine wpList_pushB _ rfl (.tmp 27) (.tmp 32) 22 rfl pfxR_ok w.heap.size 35 ip_ _ 16 Try.underlying22 hip hp0 hp1 hp2 rfl (by decide) NoF _ (fullL m) rfl HX.out.own ⟨wr.heap.size, 0, none⟩ 1 1 [.int .u32 (fP m).addr, .int .i64 (fP m).len] [fP m] rfl rfl HX.out.news HX.out.one (noF_in _) h63.out h64.out HX.out.base ?_)
      intro v5 w5 hv5 hg5 hn5
      obtain ⟨A5, c5, rfl⟩ := hv5.form
      have HR5 := Lib.hid (HR.out.push hv5 hg5)
      have HE5 : Hid (fullL (m + 1) = fullL m ++ [fP m]) := Lib.hid (fullL_succ m)
      clear hv5 hg5 hn5
      go_wp2_with fail
      go_roundw
      case rel => exact ⟨_, _, _, m + 1, by omega, by go_num, rfl, Lib.hid (by rw [HE5.out]; exact HR5.out)⟩
      case measure => simp [intOf]; omega
    · obtain rfl : k = n := by omega
      have HR0 : Hid (FullR w wr (.slice A m c) (fullX k 0)) := by rw [fullX_zero]; exact HR
      clear HR hlt hk
      go_wp2_with fail
      go_loopw [5, 7] (fun v i wr => ∃ A m c, ∃ j : Nat, j ≤ tw ∧ i = .int .i64 j ∧ v = .slice A m c ∧ Hid (FullR w wr (.slice A m c) (fullX k j))) (fun _ i _ => tw - (intOf i).toNat)
      case atStart => exact ⟨_, _, _, 0, Nat.zero_le _, rfl, rfl, HR0⟩
      case round =>
        clear HR0
        obtain ⟨A, m, c, j, hj, rfl, rfl, HR⟩ := hrel
        have hm : m = k + j := by have := HR.out.own.len; rw [fullX_len (by omega)] at this; exact this
        by_cases hlt : j < tw
        · obtain ⟨x, l, g, rfl, hx, hf, c1, c2⟩ := own_atP HR.out.own (k := j) (by omega)
          have hxf : fP j = ⟨x, l⟩ := by
            have h1 : (fullX k j)[j]? = some (fP j) := by
              unfold fullX
              rw [List.getElem?_append_left (by rw [fullL_len]; omega)]
              exact fullL_get (by omega)
            rw [hx] at h1
            exact (Option.some.inj h1).symm
          have HX := Lib.hid (HR.out.news ⟨x, l⟩ hf)
          have h63 : Hid ((fullX k j).length + 1 ≤ 9223372036854775807) := by show _ ≤ _; rw [fullX_len (by omega)]; omega
          have h64 : Hid (((fullX k j).length + 1) * 16 ≤ 140737488355328) := by show _ ≤ _; rw [fullX_len (by omega)]; omega
          have HE5 : Hid (fullX k (j + 1) = fullX k j ++ [⟨x, l⟩]) := Lib.hid (by rw [← hxf]; exact fullX_succ (by omega))
          have hj0 : (0 : Int) ≤ (j : Int) := by omega
          have hj1 : (j : Int) < (m : Int) := by omega
          have hgl : g < wr.heap.size := by
            obtain ⟨g', T, he, _, _, hb, _⟩ := own_blkP HR.out.own
            cases he
            exact hb.lt
          clear hxf hx hf hm
          go_wp2_with (at_builtin; refine wpList_pushB _ rfl (.tmp 39) (.tmp 44) 22 rfl pfxR_ok w.heap.size 35 ip_ _ 16 Try.underlying22 hip hp0 hp1 hp2 rfl (by decide) NoF _ (fullX k j) rfl HX.out.own ⟨wr.heap.size, 0, none⟩ 1 1 [.int .u32 x, .int .i64 l] [⟨x, l⟩] rfl rfl HX.out.news HX.out.one (noF_in _) h63.out h64.out HX.out.base ?_)
          intro v5 w5 hv5 hg5 hn5
          obtain ⟨A5, c5, rfl⟩ := hv5.form
          have HR5 := Lib.hid (HR.out.push hv5 hg5)
          clear hv5 hg5 hn5
          go_wp2_with fail
          go_roundw
          case rel => exact ⟨_, _, _, j + 1, by omega, by go_num, rfl, Lib.hid (by rw [HE5.out]; exact HR5.out)⟩
          case measure => simp [intOf]; omega
        · have HL0 := HR.out.own.freeze pfxR_ok
          have HF0 : InF (fun b => NoF b ∨ (Value.slice A m c).ownBlock = some b) wr := fun b hb => hb.elim (fun h => h.elim) fun h => (HR.out.own.lt b h).2
          obtain ⟨F0, hF0⟩ : ∃ F0, F0 = fun b => NoF b ∨ (Value.slice A m c).ownBlock = some b := ⟨_, rfl⟩
          rw [← hF0] at HL0 HF0
          have HL := Lib.hid HL0
          have HF := Lib.hid HF0
          have HB := Lib.hid HR.out.below
          have hof := full_of (n := k) (k := j) hnn (by omega)
          have hOr := fun h => full_or (n := k) h
          have HO := Lib.hid hof
          have HOr := Lib.hid hOr
          clear hF0 HL0 HF0 HR hof hOr hm hj
          go_wp2_with fail
          refine (set_Of wr F0 A m c _ HL.out HF.out).mono ?_
          rintro e w2 ⟨A2, n2, c2, F2, rfl, hg2, hl2⟩
          rw [HO.out.1]
          rw [HO.out.2] at hl2
          have HB2 := Lib.hid (below_step HB.out hg2.below)
          by_cases h40 : 4096 < k
          · have hd : decide ((k : Int) > 4096) = true := decide_eq_true (by omega)
            rw [if_pos h40] at hl2 ⊢
            have hn2 : n2 = 0 := hl2.len.1
            subst hn2
            have HB3 := Lib.hid (HB2.out.alloc HB2.out.size (.cells #[.slice A2 0 c2] 26))
            clear hg2 hl2
            go_wp2_with fail
            refine (set_Len _ _ _ _).mono ?_
            rintro e w3 ⟨rfl, hb3⟩
            go_wp2_with fail
            go_ret
            exact ⟨rfl, below_step HB3.out hb3⟩
          · have hd : decide ((k : Int) > 4096) = false := decide_eq_false (by omega)
            rw [if_neg h40] at hl2 ⊢
            have hn2 : n2 = k := by have := hl2.len.1; rw [fullL_len] at this; exact this
            subst hn2
            have HS := Lib.hid (LSt.new (fs := []) ⟨Grew.refl hg2.lt, by simp⟩ hl2)
            clear hg2 hl2
            go_upto_region 17 with fail
            refine wp_gen (fun W => LSt w2 F2 W _ _) HS.out ?_
            intro W hW
            have HW := Lib.hid hW
            have HFW := Lib.hid hW.grew.lt
            clear hW HS
            go_wp2_with fail
            refine (of_lit W F2 HFW.out [.int .u32 2147483648, .int .i64 1] [oneP] [oneP] 1 1 rfl (by intro x hx; simp at hx; subst hx; exact ⟨by simp [oneP], by simp [oneP]⟩) one_of.1 one_of.2 rfl rfl (by decide)).mono ?_
            rintro e w3 ⟨A3, c3, F3, rfl, hg3, hl3⟩
            have HS := Lib.hid ((HW.out.go hg3).new hl3)
            clear hg3 hl3 HW HFW
            go_upto_region 18 with fail
            refine wp_gen (fun W => LSt w2 F2 W _ _) HS.out ?_
            intro W hW
            have hall := hW.fact
            simp only [List.forall_mem_cons] at hall
            obtain ⟨⟨k2, l2⟩, ⟨k1, l1⟩, _⟩ := hall
            have q1 := k1.cell 0
            have q2 := k2.cell 0
            have HW := Lib.hid hW
            have hor := set_Or W _ A2 n2 c2 _ A3 1 c3 _ l1 l2 hW.grew.lt (by omega) (by omega)
            have Hor := Lib.hid hor
            clear hW k1 k2 l1 l2 hor
            go_wp2_with fail
            refine Hor.out.mono ?_
            rintro e w4 ⟨A4, n4, c4, F4, rfl, hg4, hl4⟩
            rw [HOr.out (by omega)]
            have HS := Lib.hid ((HW.out.go hg4).new hl4)
            clear hg4 hl4 q1 q2 HW Hor
            go_upto_region 19 with fail
            refine wp_gen (fun W => LSt w2 F2 W _ _) HS.out ?_
            intro W hW
            have hall := hW.fact
            simp only [List.forall_mem_cons] at hall
            obtain ⟨_, _, ⟨k1, l1⟩, _⟩ := hall
            have q1 := k1.cell 0
            have HBW := Lib.hid (HB2.out.trans (hW.grew.below.mono HB2.out.size))
            clear hW k1 l1
            by_cases h4 : n2 = 4096
            · have b1 : ((n2 : Int) == 4096) = true := by rw [beq_iff_eq]; omega
              rw [if_pos h4]
              clear h4
              go_wp2_with fail
              refine (set_Len _ _ _ _).mono ?_
              rintro e w5 ⟨rfl, hb5⟩
              go_wp2_with fail
              go_ret
              exact ⟨by simp, below_step HBW.out hb5⟩
            · have b1 : ((n2 : Int) == 4096) = false := by rw [beq_eq_false_iff_ne]; omega
              rw [if_neg h4]
              clear h4
              go_wp2_with fail
              refine (set_Len _ _ _ _).mono ?_
              rintro e w5 ⟨rfl, hb5⟩
              go_wp2_with fail
              go_ret
              exact ⟨by simp, below_step HBW.out hb5⟩
end Go.Proofs.Ythiodgnklfbmjaa
