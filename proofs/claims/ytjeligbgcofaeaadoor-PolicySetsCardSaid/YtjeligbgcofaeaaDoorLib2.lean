/- More words for memory: a part of a slice; its cells in a row; an append at a step of a region that draws its order. Nothing here speaks of one program. -/
import Derived.Test.YtjeligbgcofaeaaDoorLib
import Derived.Deep.RegionLaw
namespace Go.Proofs.YtjeligbgcofaeaaDoor
open Go.RowKit

theorem rangeAt_append {w : World} {b o : Nat} {cs ds : List Value} (h : w.rangeAt b o cs) (k : w.rangeAt b (o + cs.length) ds) : w.rangeAt b o (cs ++ ds) := fun j v hv => by
  rw [List.getElem?_append] at hv
  by_cases hj : j < cs.length
  · rw [if_pos hj] at hv
    exact h j v hv
  · rw [if_neg hj] at hv
    have := k _ v hv
    rwa [show o + cs.length + (j - cs.length) = o + j by omega] at this
section
variable {α : Type} {size : Nat} {R : Rep α} {w : World} {F : Nat → Prop} {b off n c : Nat} {xs : List α}
/-- a slice's elements, in a row -/
theorem listR.cells (ok : R.Ok size) (h : listR size R w F [.slice (some ⟨b, off, none⟩) n c] xs) : ∃ cells, Groups R w F cells xs ∧ w.rangeAt b off cells := by
  have key : ∀ k, k ≤ xs.length → ∃ cells, Groups R w F cells (xs.take k) ∧ w.rangeAt b off cells := by
    intro k
    induction k with
    | zero => exact fun _ => ⟨[], by rw [List.take_zero]; rfl, fun j v hv => by simp at hv⟩
    | succ k ih =>
      intro hk
      obtain ⟨cells, h1, h2⟩ := ih (by omega)
      have hx : xs[k]? = some xs[k] := List.getElem?_eq_getElem (by omega)
      obtain ⟨b', off', cs, he, _, hR, hr⟩ := h.at_ hx
      obtain ⟨rfl, rfl⟩ : b = b' ∧ off = off' := by simp only [Option.some.injEq, Addr.mk.injEq] at he; exact ⟨he.1, he.2.1⟩
      have ht : xs.take (k + 1) = xs.take k ++ [xs[k]] := by rw [List.take_add_one, hx]; rfl
      refine ⟨cells ++ cs, by rw [ht]; exact Groups.snoc hR h1, rangeAt_append h2 ?_⟩
      rw [h1.length ok, List.length_take, Nat.min_eq_left (by omega)]
      exact hr
  obtain ⟨cells, h1, h2⟩ := key xs.length (Nat.le_refl _)
  rw [List.take_length] at h1
  exact ⟨cells, h1, h2⟩
/-- a part of a slice -/
theorem listR.part (h : listR size R w F [.slice (some ⟨b, off, none⟩) n c] xs) {i j : Nat} (hij : i ≤ j) (hj : j ≤ n) : listR size R w F [.slice (some ⟨b, off + i * size, none⟩) (j - i) (c - i)] ((xs.take j).drop i) := by
  obtain ⟨h1, h2, h3⟩ := h.len
  have hl : ((xs.take j).drop i).length = j - i := by rw [List.length_drop, List.length_take]; omega
  refine ⟨some ⟨b, off + i * size, none⟩, c - i, by rw [hl], by omega, by omega, fun k x hx => ?_⟩
  have hk := (List.getElem?_eq_some_iff.1 hx).1
  rw [List.getElem?_drop, List.getElem?_take, if_pos (by omega)] at hx
  obtain ⟨b', off', cs, he, hF, hR, hr⟩ := h.at_ hx
  obtain ⟨rfl, rfl⟩ : b = b' ∧ off = off' := by simp only [Option.some.injEq, Addr.mk.injEq] at he; exact ⟨he.1, he.2.1⟩
  refine ⟨b, off + i * size, cs, rfl, hF, hR, ?_⟩
  rw [Nat.add_mul] at hr
  rwa [show off + i * size + k * size = off + (i * size + k * size) by omega]
end
/-- an append of some elements, at a step of a region that draws its order -/
theorem step_push {P : Program} (w : World) {ops : Array Oper} {o : Oper} {a : Act} {K : Act → World → Prop} {Q : Exit → Act → World → Prop} {E : Prop} (hgd : o.guard = none) (s x : Operand) (t : TypeId)
    (ho : o.op = .call { callee := .builtin .append, args := #[s, x], argTypes := #[t, t] }) {α : Type} {size : Nat} {R : Rep α} (ok : R.Ok size)
    (base : Nat) (e : TypeId) (i : TypeInfo) (z : Value) (bytes : Nat) (ht : P.underlying t = some (.slice e)) (hi : P.info? e = some i) (hz : i.zero = some z)
    (hsize : i.size = size) (hby : i.bytes = bytes) (hzs : z.cells.size = size) (hsz : 0 < size)
    (F : Nat → Prop) (v : Value) (xs : List α) (hs : a.eval s = v) (hown : ownR e size R w F base v xs)
    (ad : Addr) (m c : Nat) (news : List Value) (ys : List α) (hx : a.eval x = .slice (some ad) m c) (hm : m = ys.length) (hnews : ∀ j u, news[j]? = some u → w.cell? (ad.add j) = some u) (hr : Groups R w F news ys)
    (hF : InF F w) (h63 : xs.length + m ≤ 4194304) (hbytes : bytes ≤ 4096) (hbase : base ≤ w.heap.size)
    (h : ∀ v' w', ownR e size R w' F base v' (xs ++ ys) → w.grownBy w' v.ownBlock → (v'.ownBlock = v.ownBlock ∨ v'.ownBlock = some w.heap.size) → K (a.put o.dst v') w') :
    if Region.wanted o (yielded ops a.tmps) = true then Oper.wp P o a w K Q else E := by
  have hw : Region.wanted o (yielded ops a.tmps) = true := by simp [Region.wanted, hgd]
  rw [if_pos hw]
  obtain ⟨cells, h1, h2, h3⟩ := hown
  subst hm
  have hbb : (xs.length + ys.length) * bytes ≤ 140737488355328 := by
    have : (xs.length + ys.length) * bytes ≤ 4194304 * 4096 := Nat.mul_le_mul h63 hbytes
    omega
  obtain ⟨v', w', hrun, r1, r2, _, r4⟩ := run_append_own_at (P := P) w base t o.type e i z size bytes ht hi hz hsize hby hzs hsz v xs.length cells h1 ad ys.length c news (hr.length ok) hnews (hr.one ok) (by simp only [maxLen]; omega) hbb hbase
  unfold Oper.wp execOp
  simp only [ho, resolve, invoke, builtin, Sem.run_bind, Sem.run_pure, Result.andThen_ok, List.map_toArray, List.map_cons, List.map_nil, hs, hx, hrun]
  have hkeep : ∀ b, F b → w'.heap[b]? = w.heap[b]? := fun b hb => r2.block b (hF b hb) (fun e => h3 b e.symm hb)
  refine h _ _ ⟨cells ++ news, by rw [List.length_append]; exact r1, Groups.append (hr.keep ok hkeep fun _ h => h) (h2.keep ok hkeep fun _ h => h), fun g hg hFg => ?_⟩ r2 r4
  rcases r4 with r4 | r4
  · exact h3 g (r4 ▸ hg) hFg
  · rw [r4] at hg
    cases hg
    exact absurd (hF _ hFg) (by omega)
theorem news_of_range {w : World} {b off : Nat} {cs : List Value} (h : w.rangeAt b off cs) : ∀ j u, cs[j]? = some u → w.cell? (Addr.add ⟨b, off, none⟩ j) = some u := fun j u hu => by
  rw [Addr.add_mid]
  exact h j u hu
/-- a slice just made -/
theorem ownR.made {α : Type} {size : Nat} {R : Rep α} {F : Nat → Prop} {base : Nat} (w : World) (e : TypeId) (hb : base ≤ w.heap.size) (hF : InF F w) : ownR e size R (w.alloc (.cells #[] e)) F base (.slice (some ⟨w.heap.size, 0, none⟩) 0 0) [] :=
  ⟨[], World.ownsRow_made (base := base) (e := e) (size := size) w #[] 0 (by simpa using hb) (by simp [maxLen]) (by simp), rfl, fun g hg h => by
    cases hg
    exact absurd (hF _ h) (Nat.lt_irrefl _)⟩
theorem ownR.drew {α : Type} {e : TypeId} {size : Nat} {R : Rep α} {w : World} {F : Nat → Prop} {base : Nat} {v : Value} {xs : List α} (ok : R.Ok size) (h : ownR e size R w F base v xs) (hF : InF F w) : ownR e size R w.drew F base v xs :=
  h.below ok (Below.refl _ _).drew hF
theorem and1023 (a : Int) : ∃ n : Nat, n ≤ 1023 ∧ bits .and .i64 a 1023 = (n : Int) := by
  have h : (BitVec.ofInt 64 a &&& BitVec.ofInt 64 1023).toNat ≤ 1023 := by
    rw [BitVec.toNat_and]
    exact Nat.le_trans Nat.and_le_right (by decide +kernel)
  refine ⟨(BitVec.ofInt 64 a &&& BitVec.ofInt 64 1023).toNat, h, ?_⟩
  show IntKind.i64.wrap ((BitVec.ofInt 64 a &&& BitVec.ofInt 64 1023).toNat : Int) = _
  rw [IntKind.wrap_i64]
  omega
end Go.Proofs.YtjeligbgcofaeaaDoor
