/- More words for memory: an append of a frozen slice, nil or not. Nothing here speaks of one program. -/
import Derived.Test.YtjeligbgcofaeaaDoorLib2
namespace Go.Proofs.YtjeligbgcofaeaaDoor
open Go.RowKit

theorem run_append_none_any {P : Program} {w : World} (base : Nat) (t ty e : TypeId) (i : TypeInfo) (size : Nat) (ht : P.underlying t = some (.slice e)) (hi : P.info? e = some i)
    (v : Value) (n : Nat) (xs : List Value) (hown : w.ownsRow base e size v n xs) (c : Nat) :
    (Builtin.append_ #[t, t] ty #[v, .slice none 0 c]).run P w = .ok v w := by
  rcases hown.2 with ⟨rfl, rfl⟩ | ⟨g, cap, cur, rfl, _, _, hnc, _⟩
  · simp [Builtin.append_, run_underlying ht, sizeOf, typeInfo, hi, Builtin.lenOf, Builtin.firstCells]
  · simp [Builtin.append_, run_underlying ht, sizeOf, typeInfo, hi, Builtin.lenOf, Builtin.firstCells, hnc, storeCells]

/-- an append of a slice of frozen memory -/
theorem run_pushA {P : Program} {w : World} {α : Type} {size : Nat} {R : Rep α} (ok : R.Ok size) (t ty : TypeId) (base : Nat) (e : TypeId) (i : TypeInfo) (z : Value) (bytes : Nat) (ht : P.underlying t = some (.slice e)) (hi : P.info? e = some i) (hz : i.zero = some z)
    (hsize : i.size = size) (hby : i.bytes = bytes) (hzs : z.cells.size = size) (hsz : 0 < size) (F : Nat → Prop) (v : Value) (xs : List α) (hown : ownR e size R w F base v xs)
    (A : Option Addr) (m c : Nat) (ys : List α) (hl : listR size R w F [.slice A m c] ys) (hF : InF F w) (h63 : xs.length + m ≤ 9223372036854775807) (hbb : (xs.length + m) * bytes ≤ 140737488355328) (hbase : base ≤ w.heap.size) :
    ∃ v' w', (Builtin.append_ #[t, t] ty #[v, .slice A m c]).run P w = .ok v' w' ∧ ownR e size R w' F base v' (xs ++ ys) ∧ w.grownBy w' v.ownBlock ∧ (v'.ownBlock = v.ownBlock ∨ v'.ownBlock = some w.heap.size) := by
  have hm := hl.len.1
  cases A with
  | none =>
    have hy : ys = [] := by
      rcases ys with _ | ⟨y, r⟩
      · rfl
      · obtain ⟨b, off, cs, h, _⟩ := hl.at_ (k := 0) (x := y) rfl
        cases h
    subst hy
    simp at hm
    subst hm
    obtain ⟨cells, h1, h2, h3⟩ := hown
    exact ⟨v, w, run_append_none_any base t ty e i size ht hi v _ cells h1 c, by rw [List.append_nil]; exact ⟨cells, h1, h2, h3⟩, ⟨rfl, rfl, rfl, Nat.le_refl _, fun _ _ _ => rfl⟩, .inl rfl⟩
  | some ad =>
    obtain ⟨cells, h1, h2, h3⟩ := hown
    have hnews : ∃ news, Groups R w F news ys ∧ ∀ j u, news[j]? = some u → w.cell? (ad.add j) = some u := by
      rcases ys with _ | ⟨y, r⟩
      · exact ⟨[], rfl, fun j u h => by simp at h⟩
      · obtain ⟨b, off, cs, h, _⟩ := hl.at_ (k := 0) (x := y) rfl
        cases h
        obtain ⟨news, h4, h5⟩ := hl.cells ok
        exact ⟨news, h4, news_of_range h5⟩
    obtain ⟨news, hr, hn⟩ := hnews
    subst hm
    obtain ⟨v', w', hrun, r1, r2, _, r4⟩ := run_append_own_at (P := P) w base t ty e i z size bytes ht hi hz hsize hby hzs hsz v xs.length cells h1 ad ys.length c news (hr.length ok) hn (hr.one ok) (by simp only [maxLen]; omega) hbb hbase
    have hkeep : ∀ b, F b → w'.heap[b]? = w.heap[b]? := fun b hb => r2.block b (hF b hb) (fun e => h3 b e.symm hb)
    refine ⟨v', w', hrun, ⟨cells ++ news, by rw [List.length_append]; exact r1, Groups.append (hr.keep ok hkeep fun _ h => h) (h2.keep ok hkeep fun _ h => h), fun g hg hFg => ?_⟩, r2, r4⟩
    rcases r4 with r4 | r4
    · exact h3 g (r4 ▸ hg) hFg
    · rw [r4] at hg
      cases hg
      exact absurd (hF _ hFg) (by omega)
theorem step_pushA {P : Program} (w : World) {ops : Array Oper} {o : Oper} {a : Act} {K : Act → World → Prop} {Q : Exit → Act → World → Prop} {E : Prop} (hgd : o.guard = none) (s x : Operand) (t : TypeId)
    (ho : o.op = .call { callee := .builtin .append, args := #[s, x], argTypes := #[t, t] }) {α : Type} {size : Nat} {R : Rep α} (ok : R.Ok size)
    (base : Nat) (e : TypeId) (i : TypeInfo) (z : Value) (bytes : Nat) (ht : P.underlying t = some (.slice e)) (hi : P.info? e = some i) (hz : i.zero = some z)
    (hsize : i.size = size) (hby : i.bytes = bytes) (hzs : z.cells.size = size) (hsz : 0 < size)
    (F : Nat → Prop) (v : Value) (xs : List α) (hs : a.eval s = v) (hown : ownR e size R w F base v xs)
    (A : Option Addr) (m c : Nat) (ys : List α) (hx : a.eval x = .slice A m c) (hl : listR size R w F [.slice A m c] ys)
    (hF : InF F w) (h63 : xs.length + m ≤ 9223372036854775807) (hbb : (xs.length + m) * bytes ≤ 140737488355328) (hbase : base ≤ w.heap.size)
    (h : ∀ v' w', ownR e size R w' F base v' (xs ++ ys) → w.grownBy w' v.ownBlock → (v'.ownBlock = v.ownBlock ∨ v'.ownBlock = some w.heap.size) → K (a.put o.dst v') w') :
    if Region.wanted o (yielded ops a.tmps) = true then Oper.wp P o a w K Q else E := by
  have hw : Region.wanted o (yielded ops a.tmps) = true := by simp [Region.wanted, hgd]
  rw [if_pos hw]
  obtain ⟨v', w', hrun, h1, h2, h3⟩ := run_pushA (P := P) ok t o.type base e i z bytes ht hi hz hsize hby hzs hsz F v xs hown A m c ys hl hF h63 hbb hbase
  unfold Oper.wp execOp
  simp only [ho, resolve, invoke, builtin, Sem.run_bind, Sem.run_pure, Result.andThen_ok, List.map_toArray, List.map_cons, List.map_nil, hs, hx, hrun]
  exact h _ _ h1 h2 h3
theorem wpList_pushA {P : Program} (w : World) {ops : Array Oper} {rest : List Oper} {o : Oper} {a : Act} {Q : Exit → Act → World → Prop} (hgd : o.guard = none) (s x : Operand) (t : TypeId)
    (ho : o.op = .call { callee := .builtin .append, args := #[s, x], argTypes := #[t, t] }) {α : Type} {size : Nat} {R : Rep α} (ok : R.Ok size)
    (base : Nat) (e : TypeId) (i : TypeInfo) (z : Value) (bytes : Nat) (ht : P.underlying t = some (.slice e)) (hi : P.info? e = some i) (hz : i.zero = some z)
    (hsize : i.size = size) (hby : i.bytes = bytes) (hzs : z.cells.size = size) (hsz : 0 < size)
    (F : Nat → Prop) (v : Value) (xs : List α) (hs : a.eval s = v) (hown : ownR e size R w F base v xs)
    (A : Option Addr) (m c : Nat) (ys : List α) (hx : a.eval x = .slice A m c) (hl : listR size R w F [.slice A m c] ys)
    (hF : InF F w) (h63 : xs.length + m ≤ 9223372036854775807) (hbb : (xs.length + m) * bytes ≤ 140737488355328) (hbase : base ≤ w.heap.size)
    (h : ∀ v' w', ownR e size R w' F base v' (xs ++ ys) → w.grownBy w' v.ownBlock → (v'.ownBlock = v.ownBlock ∨ v'.ownBlock = some w.heap.size) → wpList P ops Q rest (a.put o.dst v') w') : wpList P ops Q (o :: rest) a w := by
  refine wpList_plain hgd fun K hK => ?_
  obtain ⟨v', w', hrun, h1, h2, h3⟩ := run_pushA (P := P) ok t o.type base e i z bytes ht hi hz hsize hby hzs hsz F v xs hown A m c ys hl hF h63 hbb hbase
  unfold Oper.wp execOp
  simp only [ho, resolve, invoke, builtin, Sem.run_bind, Sem.run_pure, Result.andThen_ok, List.map_toArray, List.map_cons, List.map_nil, hs, hx, hrun]
  exact hK _ _ (h _ _ h1 h2 h3)
/-- an append of some cells that are known, with wide bounds -/
theorem run_pushB {P : Program} {w : World} {α : Type} {size : Nat} {R : Rep α} (ok : R.Ok size) (t ty : TypeId) (base : Nat) (e : TypeId) (i : TypeInfo) (z : Value) (bytes : Nat) (ht : P.underlying t = some (.slice e)) (hi : P.info? e = some i) (hz : i.zero = some z)
    (hsize : i.size = size) (hby : i.bytes = bytes) (hzs : z.cells.size = size) (hsz : 0 < size) (F : Nat → Prop) (v : Value) (xs : List α) (hown : ownR e size R w F base v xs)
    (ad : Addr) (m c : Nat) (news : List Value) (ys : List α) (hm : m = ys.length) (hnews : ∀ j u, news[j]? = some u → w.cell? (ad.add j) = some u) (hr : Groups R w F news ys)
    (hF : InF F w) (h63 : xs.length + m ≤ 9223372036854775807) (hbb : (xs.length + m) * bytes ≤ 140737488355328) (hbase : base ≤ w.heap.size) :
    ∃ v' w', (Builtin.append_ #[t, t] ty #[v, .slice (some ad) m c]).run P w = .ok v' w' ∧ ownR e size R w' F base v' (xs ++ ys) ∧ w.grownBy w' v.ownBlock ∧ (v'.ownBlock = v.ownBlock ∨ v'.ownBlock = some w.heap.size) := by
  obtain ⟨cells, h1, h2, h3⟩ := hown
  subst hm
  obtain ⟨v', w', hrun, r1, r2, _, r4⟩ := run_append_own_at (P := P) w base t ty e i z size bytes ht hi hz hsize hby hzs hsz v xs.length cells h1 ad ys.length c news (hr.length ok) hnews (hr.one ok) (by simp only [maxLen]; omega) hbb hbase
  have hkeep : ∀ b, F b → w'.heap[b]? = w.heap[b]? := fun b hb => r2.block b (hF b hb) (fun e => h3 b e.symm hb)
  refine ⟨v', w', hrun, ⟨cells ++ news, by rw [List.length_append]; exact r1, Groups.append (hr.keep ok hkeep fun _ h => h) (h2.keep ok hkeep fun _ h => h), fun g hg hFg => ?_⟩, r2, r4⟩
  rcases r4 with r4 | r4
  · exact h3 g (r4 ▸ hg) hFg
  · rw [r4] at hg
    cases hg
    exact absurd (hF _ hFg) (by omega)
theorem step_pushB {P : Program} (w : World) {ops : Array Oper} {o : Oper} {a : Act} {K : Act → World → Prop} {Q : Exit → Act → World → Prop} {E : Prop} (hgd : o.guard = none) (s x : Operand) (t : TypeId)
    (ho : o.op = .call { callee := .builtin .append, args := #[s, x], argTypes := #[t, t] }) {α : Type} {size : Nat} {R : Rep α} (ok : R.Ok size)
    (base : Nat) (e : TypeId) (i : TypeInfo) (z : Value) (bytes : Nat) (ht : P.underlying t = some (.slice e)) (hi : P.info? e = some i) (hz : i.zero = some z)
    (hsize : i.size = size) (hby : i.bytes = bytes) (hzs : z.cells.size = size) (hsz : 0 < size)
    (F : Nat → Prop) (v : Value) (xs : List α) (hs : a.eval s = v) (hown : ownR e size R w F base v xs)
    (ad : Addr) (m c : Nat) (news : List Value) (ys : List α) (hx : a.eval x = .slice (some ad) m c) (hm : m = ys.length) (hnews : ∀ j u, news[j]? = some u → w.cell? (ad.add j) = some u) (hr : Groups R w F news ys)
    (hF : InF F w) (h63 : xs.length + m ≤ 9223372036854775807) (hbb : (xs.length + m) * bytes ≤ 140737488355328) (hbase : base ≤ w.heap.size)
    (h : ∀ v' w', ownR e size R w' F base v' (xs ++ ys) → w.grownBy w' v.ownBlock → (v'.ownBlock = v.ownBlock ∨ v'.ownBlock = some w.heap.size) → K (a.put o.dst v') w') :
    if Region.wanted o (yielded ops a.tmps) = true then Oper.wp P o a w K Q else E := by
  have hw : Region.wanted o (yielded ops a.tmps) = true := by simp [Region.wanted, hgd]
  rw [if_pos hw]
  obtain ⟨v', w', hrun, h1, h2, h3⟩ := run_pushB (P := P) ok t o.type base e i z bytes ht hi hz hsize hby hzs hsz F v xs hown ad m c news ys hm hnews hr hF h63 hbb hbase
  unfold Oper.wp execOp
  simp only [ho, resolve, invoke, builtin, Sem.run_bind, Sem.run_pure, Result.andThen_ok, List.map_toArray, List.map_cons, List.map_nil, hs, hx, hrun]
  exact h _ _ h1 h2 h3
theorem wpList_pushB {P : Program} (w : World) {ops : Array Oper} {rest : List Oper} {o : Oper} {a : Act} {Q : Exit → Act → World → Prop} (hgd : o.guard = none) (s x : Operand) (t : TypeId)
    (ho : o.op = .call { callee := .builtin .append, args := #[s, x], argTypes := #[t, t] }) {α : Type} {size : Nat} {R : Rep α} (ok : R.Ok size)
    (base : Nat) (e : TypeId) (i : TypeInfo) (z : Value) (bytes : Nat) (ht : P.underlying t = some (.slice e)) (hi : P.info? e = some i) (hz : i.zero = some z)
    (hsize : i.size = size) (hby : i.bytes = bytes) (hzs : z.cells.size = size) (hsz : 0 < size)
    (F : Nat → Prop) (v : Value) (xs : List α) (hs : a.eval s = v) (hown : ownR e size R w F base v xs)
    (ad : Addr) (m c : Nat) (news : List Value) (ys : List α) (hx : a.eval x = .slice (some ad) m c) (hm : m = ys.length) (hnews : ∀ j u, news[j]? = some u → w.cell? (ad.add j) = some u) (hr : Groups R w F news ys)
    (hF : InF F w) (h63 : xs.length + m ≤ 9223372036854775807) (hbb : (xs.length + m) * bytes ≤ 140737488355328) (hbase : base ≤ w.heap.size)
    (h : ∀ v' w', ownR e size R w' F base v' (xs ++ ys) → w.grownBy w' v.ownBlock → (v'.ownBlock = v.ownBlock ∨ v'.ownBlock = some w.heap.size) → wpList P ops Q rest (a.put o.dst v') w') : wpList P ops Q (o :: rest) a w := by
  refine wpList_plain hgd fun K hK => ?_
  obtain ⟨v', w', hrun, h1, h2, h3⟩ := run_pushB (P := P) ok t o.type base e i z bytes ht hi hz hsize hby hzs hsz F v xs hown ad m c news ys hm hnews hr hF h63 hbb hbase
  unfold Oper.wp execOp
  simp only [ho, resolve, invoke, builtin, Sem.run_bind, Sem.run_pure, Result.andThen_ok, List.map_toArray, List.map_cons, List.map_nil, hs, hx, hrun]
  exact hK _ _ (h _ _ h1 h2 h3)
/-- what was made is frozen: one set of frozen blocks more -/
theorem Grew.own {α : Type} {e : TypeId} {size : Nat} {R : Rep α} {w w1 : World} {F F1 : Nat → Prop} {base : Nat} {v : Value} {xs : List α} (h : Grew w F w1 F1) (ho : ownR e size R w1 F1 base v xs) (hb : w.heap.size ≤ base) : Grew w F w1 (fun b => F1 b ∨ v.ownBlock = some b) :=
  ⟨h.below, fun b hb => .inl (h.sub b hb), fun b hb' => by
    rcases hb' with h1 | h1
    · exact h.fresh b h1
    · exact .inr (Nat.le_trans hb (ho.lt b h1).1), fun b hb' => by
    rcases hb' with h1 | h1
    · exact h.lt b h1
    · exact (ho.lt b h1).2⟩
theorem Grew.grown {w w1 w2 : World} {F F1 : Nat → Prop} {row : Option Nat} (h : Grew w F w1 F1) (hg : w1.grownBy w2 row) (hr : ∀ g, row = some g → w.heap.size ≤ g) : Grew w F w2 F1 :=
  ⟨h.below.grown hg h.below.size hr, h.sub, h.fresh, h.lt.mono hg.size⟩
theorem grownBy_none {w w' : World} (h : w.grownBy w' none) : Below w.heap.size w w' := ⟨h.os, h.tape, h.output, h.size, fun k hk => h.block k hk (by simp)⟩
end Go.Proofs.YtjeligbgcofaeaaDoor
