/- Words for memory that all walks of this seat share: how a Go value reads as plain data, what keeps a reading, and appends onto a slice of the call's own. Nothing here speaks of one program. -/
import Derived.Test.YtjeligbgcofaeaaDoorRows
import Derived.WalkKit
import Derived.WalkSpells
import Derived.WalkLawsBesides
import Derived.Deep.MidRow
import Derived.Deep.WholeRow
import Derived.Maps.AppendAt
import Derived.Lib.Hide
namespace Go.Proofs.YtjeligbgcofaeaaDoor
open Go.RowKit

/-- how the cells of a value read as data, in a world, with its memory in the blocks of F -/
abbrev Rep (α : Type) := World → (Nat → Prop) → List Value → α → Prop

structure Rep.Ok {α : Type} (size : Nat) (R : Rep α) : Prop where
  len : ∀ {w : World} {F : Nat → Prop} {cs : List Value} {x : α}, R w F cs x → cs.length = size
  one : ∀ {w : World} {F : Nat → Prop} {cs : List Value} {x : α}, R w F cs x → ∀ u ∈ cs, u.oneCell' = true
  keep : ∀ {w w' : World} {F F' : Nat → Prop} {cs : List Value} {x : α}, R w F cs x → (∀ b, F b → w'.heap[b]? = w.heap[b]?) → (∀ b, F b → F' b) → R w' F' cs x

/-- the frozen blocks are there -/
def InF (F : Nat → Prop) (w : World) : Prop := ∀ b, F b → b < w.heap.size

/-- from one world to a later one: what was there is as it was; what is frozen stays so, and what is newly frozen is new memory -/
structure Grew (w : World) (F : Nat → Prop) (w' : World) (F' : Nat → Prop) : Prop where
  below : Below w.heap.size w w'
  sub : ∀ b, F b → F' b
  fresh : ∀ b, F' b → F b ∨ w.heap.size ≤ b
  lt : InF F' w'

theorem InF.mono {F : Nat → Prop} {w w' : World} (h : InF F w) (hs : w.heap.size ≤ w'.heap.size) : InF F w' := fun b hb => Nat.lt_of_lt_of_le (h b hb) hs
theorem InF.below {F : Nat → Prop} {w w' : World} {B : Nat} (h : InF F w) (hs : Below B w w') : InF F w' := h.mono hs.size
theorem Grew.refl {w : World} {F : Nat → Prop} (h : InF F w) : Grew w F w F := ⟨Below.refl _ _, fun _ h => h, fun _ h => .inl h, h⟩
theorem Grew.trans {a b c : World} {F G H : Nat → Prop} (h : Grew a F b G) (k : Grew b G c H) : Grew a F c H :=
  ⟨h.below.trans (k.below.mono h.below.size), fun x hx => k.sub x (h.sub x hx), fun x hx => by
    rcases k.fresh x hx with h1 | h1
    · exact h.fresh x h1
    · exact .inr (Nat.le_trans h.below.size h1), k.lt⟩
theorem Grew.keepF {w w' : World} {F F' : Nat → Prop} (h : Grew w F w' F') (hl : InF F w) : ∀ b, F b → w'.heap[b]? = w.heap[b]? := fun b hb => h.below.block b (hl b hb)
theorem Rep.Ok.grew {α : Type} {size : Nat} {R : Rep α} (ok : R.Ok size) {w w' : World} {F F' : Nat → Prop} {cs : List Value} {x : α} (h : R w F cs x) (hg : Grew w F w' F') (hl : InF F w) : R w' F' cs x :=
  ok.keep h (hg.keepF hl) hg.sub
theorem Rep.Ok.below {α : Type} {size : Nat} {R : Rep α} (ok : R.Ok size) {w w' : World} {F : Nat → Prop} {cs : List Value} {x : α} (h : R w F cs x) (hg : Below w.heap.size w w') (hl : InF F w) : R w' F cs x :=
  ok.keep h (fun b hb => hg.block b (hl b hb)) fun _ h => h

/-- a number of a kind -/
def intR (k : IntKind) : Rep Int := fun _ _ cs x => cs = [.int k x] ∧ k.min ≤ x ∧ x ≤ k.max
def boolR : Rep Bool := fun _ _ cs x => cs = [.bool x]
theorem intR_ok (k : IntKind) : (intR k).Ok 1 := ⟨fun h => by rw [h.1]; rfl, fun h u hu => by rw [h.1] at hu; simp at hu; subst hu; rfl, fun h _ _ => h⟩
theorem boolR_ok : boolR.Ok 1 := ⟨fun h => by rw [h]; rfl, fun h u hu => by rw [h] at hu; simp at hu; subst hu; rfl, fun h _ _ => h⟩
theorem intR_mk {k : IntKind} {w : World} {F : Nat → Prop} {x : Int} (h : k.min ≤ x ∧ x ≤ k.max) : intR k w F [.int k x] x := ⟨rfl, h⟩

/-- a slice of frozen memory, element by element -/
def listR {α : Type} (size : Nat) (R : Rep α) : Rep (List α) := fun w F cs xs =>
  ∃ A c, cs = [.slice A xs.length c] ∧ xs.length ≤ c ∧ c ≤ maxLen ∧ ∀ k x, xs[k]? = some x → ∃ b off cs', A = some ⟨b, off, none⟩ ∧ F b ∧ R w F cs' x ∧ w.rangeAt b (off + k * size) cs'

theorem rangeAt_block {w w' : World} {b o : Nat} {cs : List Value} (h : w.rangeAt b o cs) (hb : w'.heap[b]? = w.heap[b]?) : w'.rangeAt b o cs := fun j v hv => by
  have h1 := h j v hv
  rw [← h1]
  exact World.cell?_of_block (a := ⟨b, o + j, none⟩) hb

theorem listR_ok {α : Type} {size : Nat} {R : Rep α} (ok : R.Ok size) : (listR size R).Ok 1 := by
  refine ⟨?_, ?_, ?_⟩
  · rintro w F cs xs ⟨A, c, rfl, _⟩
    rfl
  · rintro w F cs xs ⟨A, c, rfl, _⟩ u hu
    simp at hu
    subst hu
    rfl
  · rintro w w' F F' cs xs ⟨A, c, rfl, h1, h2, h3⟩ hk hs
    refine ⟨A, c, rfl, h1, h2, fun k x hx => ?_⟩
    obtain ⟨b, off, cs', rfl, hb, hr, hc⟩ := h3 k x hx
    exact ⟨b, off, cs', rfl, hs b hb, ok.keep hr hk hs, rangeAt_block hc (hk b hb)⟩

theorem listR.nil {α : Type} {size : Nat} {R : Rep α} {w : World} {F : Nat → Prop} : listR size R w F [.slice none 0 0] [] := ⟨none, 0, rfl, Nat.le_refl _, by simp [maxLen], fun k x h => by simp at h⟩

/-- the element at a place: its cells -/
theorem listR.at_ {α : Type} {size : Nat} {R : Rep α} {w : World} {F : Nat → Prop} {A : Option Addr} {n c : Nat} {xs : List α} (h : listR size R w F [.slice A n c] xs) {k : Nat} {x : α} (hx : xs[k]? = some x) :
    ∃ b off cs', A = some ⟨b, off, none⟩ ∧ F b ∧ R w F cs' x ∧ w.rangeAt b (off + k * size) cs' := by
  obtain ⟨A', c', he, _, _, h3⟩ := h
  simp only [List.cons.injEq, Value.slice.injEq, and_true] at he
  obtain ⟨rfl, rfl, rfl⟩ := he
  exact h3 k x hx
theorem listR.len {α : Type} {size : Nat} {R : Rep α} {w : World} {F : Nat → Prop} {A : Option Addr} {n c : Nat} {xs : List α} (h : listR size R w F [.slice A n c] xs) : n = xs.length ∧ n ≤ c ∧ c ≤ maxLen := by
  obtain ⟨A', c', he, h1, h2, _⟩ := h
  simp only [List.cons.injEq, Value.slice.injEq, and_true] at he
  obtain ⟨rfl, rfl, rfl⟩ := he
  exact ⟨rfl, h1, h2⟩
theorem listR.form {α : Type} {size : Nat} {R : Rep α} {w : World} {F : Nat → Prop} {cs : List Value} {xs : List α} (h : listR size R w F cs xs) : ∃ A c, cs = [.slice A xs.length c] := by
  obtain ⟨A', c', he, h1, h2, _⟩ := h
  exact ⟨A', c', he⟩

theorem listR.val {α : Type} {size : Nat} {R : Rep α} {w : World} {F : Nat → Prop} {v : Value} {xs : List α} (h : listR size R w F [v] xs) : ∃ A c, v = .slice A xs.length c := by
  obtain ⟨A', c', he, h1, h2, _⟩ := h
  exact ⟨A', c', by simpa using he⟩

/-- cells in groups, a group an element -/
def Groups {α : Type} (R : Rep α) (w : World) (F : Nat → Prop) : List Value → List α → Prop
  | cells, [] => cells = []
  | cells, x :: xs => ∃ cs rest, cells = cs ++ rest ∧ R w F cs x ∧ Groups R w F rest xs

theorem Groups.keep {α : Type} {size : Nat} {R : Rep α} (ok : R.Ok size) {w w' : World} {F F' : Nat → Prop} (hk : ∀ b, F b → w'.heap[b]? = w.heap[b]?) (hs : ∀ b, F b → F' b) : ∀ {cells : List Value} {xs : List α}, Groups R w F cells xs → Groups R w' F' cells xs
  | _, [], h => h
  | _, _ :: _, ⟨cs, rest, he, hr, hg⟩ => ⟨cs, rest, he, ok.keep hr hk hs, Groups.keep ok hk hs hg⟩
theorem Groups.snoc {α : Type} {R : Rep α} {w : World} {F : Nat → Prop} {cs : List Value} {x : α} (hx : R w F cs x) : ∀ {cells : List Value} {xs : List α}, Groups R w F cells xs → Groups R w F (cells ++ cs) (xs ++ [x])
  | _, [], h => by
    subst h
    exact ⟨cs, [], by simp, hx, rfl⟩
  | _, _ :: _, ⟨c1, rest, he, hr, hg⟩ => by
    subst he
    exact ⟨c1, rest ++ cs, by simp, hr, Groups.snoc hx hg⟩
theorem Groups.append {α : Type} {R : Rep α} {w : World} {F : Nat → Prop} {cs : List Value} {ys : List α} (hy : Groups R w F cs ys) : ∀ {cells : List Value} {xs : List α}, Groups R w F cells xs → Groups R w F (cells ++ cs) (xs ++ ys)
  | _, [], h => by
    subst h
    simpa using hy
  | _, _ :: _, ⟨c1, rest, he, hr, hg⟩ => by
    subst he
    exact ⟨c1, rest ++ cs, by simp, hr, Groups.append hy hg⟩
theorem Groups.length {α : Type} {size : Nat} {R : Rep α} (ok : R.Ok size) {w : World} {F : Nat → Prop} : ∀ {cells : List Value} {xs : List α}, Groups R w F cells xs → cells.length = xs.length * size
  | _, [], h => by
    subst h
    simp
  | _, x :: xs, ⟨c1, rest, he, hr, hg⟩ => by
    subst he
    rw [List.length_append, ok.len hr, Groups.length ok hg, List.length_cons, Nat.succ_mul]
    omega
theorem Groups.one {α : Type} {size : Nat} {R : Rep α} (ok : R.Ok size) {w : World} {F : Nat → Prop} : ∀ {cells : List Value} {xs : List α}, Groups R w F cells xs → ∀ u ∈ cells, u.oneCell' = true
  | _, [], h, u, hu => by
    subst h
    simp at hu
  | _, x :: xs, ⟨c1, rest, he, hr, hg⟩, u, hu => by
    subst he
    rcases List.mem_append.1 hu with h | h
    · exact ok.one hr u h
    · exact Groups.one ok hg u h
theorem Groups.at_ {α : Type} {size : Nat} {R : Rep α} (ok : R.Ok size) {w : World} {F : Nat → Prop} : ∀ {cells : List Value} {xs : List α}, Groups R w F cells xs → ∀ {k : Nat} {x : α}, xs[k]? = some x → ∃ cs, R w F cs x ∧ ∀ j u, cs[j]? = some u → cells[k * size + j]? = some u
  | _, [], _, k, x, hx => by simp at hx
  | _, y :: xs, ⟨c1, rest, he, hr, hg⟩, k, x, hx => by
    subst he
    cases k with
    | zero =>
      simp at hx
      subst hx
      refine ⟨c1, hr, fun j u hu => ?_⟩
      rw [Nat.zero_mul, Nat.zero_add, List.getElem?_append_left (List.getElem?_eq_some_iff.1 hu).1]
      exact hu
    | succ k =>
      obtain ⟨cs, h1, h2⟩ := Groups.at_ ok hg (k := k) (x := x) (by simpa using hx)
      refine ⟨cs, h1, fun j u hu => ?_⟩
      have := h2 j u hu
      rw [List.getElem?_append_right (by rw [ok.len hr, Nat.succ_mul]; omega), ok.len hr]
      rw [← this]
      congr 1
      rw [Nat.succ_mul]
      omega
theorem Groups.ints {k : IntKind} {w : World} {F : Nat → Prop} : ∀ {xs : List Int}, (∀ x ∈ xs, k.min ≤ x ∧ x ≤ k.max) → Groups (intR k) w F (xs.map (Value.int k)) xs
  | [], _ => rfl
  | x :: xs, h => ⟨[.int k x], xs.map (Value.int k), rfl, ⟨rfl, h x (by simp)⟩, Groups.ints fun y hy => h y (by simp [hy])⟩
theorem Groups.ints_eq {k : IntKind} {w : World} {F : Nat → Prop} : ∀ {cells : List Value} {xs : List Int}, Groups (intR k) w F cells xs → cells = xs.map (Value.int k) ∧ ∀ x ∈ xs, k.min ≤ x ∧ x ≤ k.max
  | _, [], h => ⟨by subst h; rfl, by simp⟩
  | _, x :: xs, ⟨c1, rest, he, hr, hg⟩ => by
    subst he
    obtain ⟨h1, h2⟩ := Groups.ints_eq hg
    obtain ⟨hr1, hr2⟩ := hr
    subst hr1
    subst h1
    exact ⟨rfl, by
      intro y hy
      rcases List.mem_cons.1 hy with rfl | h
      · exact hr2
      · exact h2 y h⟩

/-- a slice of the call's own: no one else reads or writes its row -/
def ownR {α : Type} (e : TypeId) (size : Nat) (R : Rep α) (w : World) (F : Nat → Prop) (base : Nat) (v : Value) (xs : List α) : Prop :=
  ∃ cells, w.ownsRow base e size v xs.length cells ∧ Groups R w F cells xs ∧ ∀ g, v.ownBlock = some g → ¬ F g

section
variable {α : Type} {e : TypeId} {size : Nat} {R : Rep α} {w w' : World} {F F' : Nat → Prop} {base : Nat} {v : Value} {xs : List α}
theorem ownR.nil : ownR e size R w F base (.slice none 0 0) [] := ⟨[], World.ownsRow_nil _ _ _ _, rfl, by simp [Value.ownBlock]⟩
theorem ownR.form (h : ownR e size R w F base v xs) : ∃ A c, v = .slice A xs.length c := by
  obtain ⟨cells, h1, _, _⟩ := h
  rcases h1.2 with ⟨h2, h3⟩ | ⟨g, cap, cur, h2, _⟩
  · exact ⟨none, 0, by rw [h2, h3]⟩
  · exact ⟨_, _, h2⟩
/-- another block than its own was written; the frozen ones stand -/
theorem ownR.kept {row : Option Nat} (ok : R.Ok size) (h : ownR e size R w F base v xs) (hg : w.grownBy w' row) (hne : v.ownBlock = none ∨ v.ownBlock ≠ row) (hF : ∀ b, F b → w'.heap[b]? = w.heap[b]?) (hs : ∀ b, F b → F' b)
    (hn : ∀ g, v.ownBlock = some g → ¬ F' g) : ownR e size R w' F' base v xs := by
  obtain ⟨cells, h1, h2, h3⟩ := h
  exact ⟨cells, h1.kept hg hne, h2.keep ok hF hs, hn⟩
theorem grownBy_of_below (h : Below w.heap.size w w') : w.grownBy w' none := ⟨h.os, h.tape, h.output, h.size, fun k hk _ => h.block k hk⟩
theorem ownR.grew (ok : R.Ok size) (h : ownR e size R w F base v xs) (hg : Grew w F w' F') (hl : InF F w) : ownR e size R w' F' base v xs := by
  refine h.kept ok (grownBy_of_below hg.below) (by cases h : v.ownBlock <;> simp) (hg.keepF hl) hg.sub fun g hv hF' => ?_
  obtain ⟨cells, h1, h2, h3⟩ := h
  rcases hg.fresh g hF' with h4 | h4
  · exact h3 g hv h4
  · have := (h1.lt g hv).2
    omega
theorem ownR.below (ok : R.Ok size) (h : ownR e size R w F base v xs) (hg : Below w.heap.size w w') (hl : InF F w) : ownR e size R w' F base v xs :=
  h.kept ok (grownBy_of_below hg) (by cases h : v.ownBlock <;> simp) (fun b hb => hg.block b (hl b hb)) (fun _ h => h) (by obtain ⟨cells, h1, h2, h3⟩ := h; exact h3)
/-- its own row is frozen: from now on it is read alone -/
theorem ownR.freeze (ok : R.Ok size) (h : ownR e size R w F base v xs) : listR size R w (fun b => F b ∨ v.ownBlock = some b) [v] xs := by
  obtain ⟨cells, h1, h2, h3⟩ := h
  rcases h1.2 with ⟨hv, hn⟩ | ⟨g, cap, cur, hv, hb, hg, hc, hm, hs, ht⟩
  · have : xs = [] := List.eq_nil_of_length_eq_zero hn
    subst this
    subst hv
    exact listR.nil
  · subst hv
    refine ⟨_, _, rfl, hc, hm, fun k x hx => ?_⟩
    obtain ⟨cs, hr, hcs⟩ := h2.at_ ok hx
    refine ⟨g, 0, cs, rfl, .inr rfl, ok.keep hr (fun _ _ => rfl) (fun _ h => .inl h), fun j u hu => ?_⟩
    have h4 := h1.cells (g := g) rfl (k * size + j) u (hcs j u hu)
    rw [Addr.add_mid] at h4
    rw [← h4]
    congr 2
    omega
theorem ownR.at_ (ok : R.Ok size) (h : ownR e size R w F base v xs) {k : Nat} {x : α} (hx : xs[k]? = some x) : ∃ g cap cs, v = .slice (some ⟨g, 0, none⟩) xs.length cap ∧ base ≤ g ∧ ¬ F g ∧ R w F cs x ∧ w.rangeAt g (k * size) cs := by
  obtain ⟨cells, h1, h2, h3⟩ := h
  rcases h1.2 with ⟨hv, hn⟩ | ⟨g, cap, cur, hv, hb, hg, hc, hm, hs, ht⟩
  · have : xs = [] := List.eq_nil_of_length_eq_zero hn
    subst this
    simp at hx
  · subst hv
    obtain ⟨cs, hr, hcs⟩ := h2.at_ ok hx
    refine ⟨g, cap, cs, rfl, hb, h3 g rfl, hr, fun j u hu => ?_⟩
    have h4 := h1.cells (g := g) rfl (k * size + j) u (hcs j u hu)
    rw [Addr.add_mid] at h4
    rw [← h4]
    congr 2
    omega
theorem ownR.lt (h : ownR e size R w F base v xs) : ∀ g, v.ownBlock = some g → base ≤ g ∧ g < w.heap.size := by
  obtain ⟨cells, h1, _, _⟩ := h
  exact h1.lt
end

/-- an append of some elements, onto a slice of the call's own -/
theorem wpList_push {P : Program} (w : World) {ops : Array Oper} {rest : List Oper} {o : Oper} {a : Act} {Q : Exit → Act → World → Prop} (hgd : o.guard = none) (s x : Operand) (t : TypeId)
    (ho : o.op = .call { callee := .builtin .append, args := #[s, x], argTypes := #[t, t] }) {α : Type} {size : Nat} {R : Rep α} (ok : R.Ok size)
    (base : Nat) (e : TypeId) (i : TypeInfo) (z : Value) (bytes : Nat) (ht : P.underlying t = some (.slice e)) (hi : P.info? e = some i) (hz : i.zero = some z)
    (hsize : i.size = size) (hby : i.bytes = bytes) (hzs : z.cells.size = size) (hsz : 0 < size)
    (F : Nat → Prop) (v : Value) (xs : List α) (hs : a.eval s = v) (hown : ownR e size R w F base v xs)
    (ad : Addr) (m c : Nat) (news : List Value) (ys : List α) (hx : a.eval x = .slice (some ad) m c) (hm : m = ys.length) (hnews : ∀ j u, news[j]? = some u → w.cell? (ad.add j) = some u) (hr : Groups R w F news ys)
    (hF : InF F w) (h63 : xs.length + m ≤ 4194304) (hbytes : bytes ≤ 4096) (hbase : base ≤ w.heap.size)
    (h : ∀ v' w', ownR e size R w' F base v' (xs ++ ys) → w.grownBy w' v.ownBlock → (v'.ownBlock = v.ownBlock ∨ v'.ownBlock = some w.heap.size) → wpList P ops Q rest (a.put o.dst v') w') : wpList P ops Q (o :: rest) a w := by
  refine wpList_plain hgd fun K hK => ?_
  obtain ⟨cells, h1, h2, h3⟩ := hown
  subst hm
  have hbb : (xs.length + ys.length) * bytes ≤ 140737488355328 := by
    have : (xs.length + ys.length) * bytes ≤ 4194304 * 4096 := Nat.mul_le_mul h63 hbytes
    omega
  obtain ⟨v', w', hrun, r1, r2, _, r4⟩ := run_append_own_at (P := P) w base t o.type e i z size bytes ht hi hz hsize hby hzs hsz v xs.length cells h1 ad ys.length c news (hr.length ok) hnews (hr.one ok) (by simp only [maxLen]; omega) hbb hbase
  unfold Oper.wp execOp
  simp only [ho, resolve, invoke, builtin, Sem.run_bind, Sem.run_pure, Result.andThen_ok, List.map_toArray, List.map_cons, List.map_nil, hs, hx, hrun]
  have hkeep : ∀ b, F b → w'.heap[b]? = w.heap[b]? := fun b hb => r2.block b (hF b hb) (fun e => h3 b e.symm hb)
  refine hK _ _ (h v' w' ⟨cells ++ news, by rw [List.length_append]; exact r1, Groups.append (hr.keep ok hkeep fun _ h => h) (h2.keep ok hkeep fun _ h => h), fun g hg hFg => ?_⟩ r2 r4)
  rcases r4 with r4 | r4
  · exact h3 g (r4 ▸ hg) hFg
  · rw [r4] at hg
    cases hg
    exact absurd (hF _ hFg) (by omega)

theorem i64_bounds {x : Int} (h : IntKind.i64.min ≤ x ∧ x ≤ IntKind.i64.max) : -9223372036854775808 ≤ x ∧ x ≤ 9223372036854775807 := by
  simpa [IntKind.min, IntKind.max, IntKind.signed, IntKind.bits] using h
theorem i64_mk {x : Int} (h1 : -9223372036854775808 ≤ x) (h2 : x ≤ 9223372036854775807) : IntKind.i64.min ≤ x ∧ x ≤ IntKind.i64.max := by
  simpa [IntKind.min, IntKind.max, IntKind.signed, IntKind.bits] using ⟨h1, h2⟩
theorem u32_bounds {x : Int} (h : IntKind.u32.min ≤ x ∧ x ≤ IntKind.u32.max) : 0 ≤ x ∧ x ≤ 4294967295 := by
  simpa [IntKind.min, IntKind.max, IntKind.signed, IntKind.bits] using h
theorem ret_int {k : IntKind} {a b : Int} (h : a = b) : Ending.returned (.int k a) = .returned (.int k b) := by rw [h]
theorem ret_bool {a b : Bool} (h : a = b) : Ending.returned (.bool a) = .returned (.bool b) := by rw [h]
theorem bcell {W w1 : World} (hb : Below W.heap.size W w1) : (∀ b o, b < W.heap.size → w1.cell? ⟨b, o, none⟩ = W.cell? ⟨b, o, none⟩) ∧ (∀ b o, b < W.heap.size → w1.frozen? ⟨b, o, none⟩ = W.frozen? ⟨b, o, none⟩) :=
  ⟨fun b o h => hb.cell (p := ⟨b, o, none⟩) h, fun b o h => hb.frozen (p := ⟨b, o, none⟩) h⟩
theorem below_step {a b c : World} (h : Below a.heap.size a b) (k : Below b.heap.size b c) : Below a.heap.size a c := h.trans (k.mono h.size)
theorem rangeAt_new (w : World) (t : TypeId) (cs : List Value) : (w.alloc (.cells cs.toArray t)).rangeAt w.heap.size 0 cs := fun j v hv => by
  rw [cell_of_row _ _ _ _ _ _ (heap_alloc_new w _)]
  simpa using hv

/-- the world behind a letter: what is known of it stands in Φ -/
theorem wp_gen {P : Program} {c : Code} {Q : Exit → Act → World → Prop} {a : Act} {W0 : World} (Φ : World → Prop) (h0 : Φ W0) (h : ∀ W, Φ W → Code.wp P c Q a W) : Code.wp P c Q a W0 := h W0 h0
/-- a block of the call's own, whole -/
structure Blk (w : World) (g : Nat) (t : TypeId) (cs : Array Value) : Prop where
  heap : w.heap[g]? = some (.cells cs t (0, 0))
theorem Blk.lt {w : World} {g : Nat} {t : TypeId} {cs : Array Value} (h : Blk w g t cs) : g < w.heap.size := (Array.getElem?_eq_some_iff.1 h.heap).1
theorem Blk.cell {w : World} {g : Nat} {t : TypeId} {cs : Array Value} (h : Blk w g t cs) : ∀ o, w.cell? ⟨g, o, none⟩ = cs[o]? := fun o => cell_of_row w g o cs t (0, 0) h.heap
theorem Blk.free {w : World} {g : Nat} {t : TypeId} {cs : Array Value} (h : Blk w g t cs) : ∀ o, w.frozen? ⟨g, o, none⟩ = false := fun o => frozen_of_row w g o cs t h.heap
theorem Blk.below {w w' : World} {g : Nat} {t : TypeId} {cs : Array Value} {B : Nat} (h : Blk w g t cs) (hb : Below B w w') (hg : g < B) : Blk w' g t cs := ⟨(hb.block g hg).trans h.heap⟩
theorem Blk.new (w : World) (t : TypeId) (cs : Array Value) : Blk (w.alloc (.cells cs t)) w.heap.size t cs := ⟨heap_alloc_new w _⟩
theorem Blk.new2 (w : World) (o : Obj) (t : TypeId) (cs : Array Value) : Blk ((w.alloc o).alloc (.cells cs t)) (w.heap.size + 1) t cs := by
  have h := Blk.new (w.alloc o) t cs
  simp at h
  exact h
theorem Blk.alloc {w : World} {g : Nat} {t : TypeId} {cs : Array Value} (h : Blk w g t cs) (o : Obj) : Blk (w.alloc o) g t cs := ⟨(Below.heap_alloc w o g h.lt).trans h.heap⟩
theorem Blk.drew {w : World} {g : Nat} {t : TypeId} {cs : Array Value} (h : Blk w g t cs) : Blk w.drew g t cs := ⟨h.heap⟩

theorem rangeAt_new_d (w : World) (t : TypeId) (cs : List Value) : ((w.alloc (.cells cs.toArray t)).drew).rangeAt w.heap.size 0 cs := rangeAt_new w t cs
theorem rangeAt_lt {w : World} {b o : Nat} {cs : List Value} (h : w.rangeAt b o cs) (hn : 0 < cs.length) : b < w.heap.size := World.block_lt_of_cell? w ⟨b, o + 0, none⟩ (h 0 _ (List.getElem?_eq_getElem hn))
theorem rangeAt_below {w w' : World} {b o B : Nat} {cs : List Value} (h : w.rangeAt b o cs) (hb : Below B w w') (hlt : b < B) : w'.rangeAt b o cs := rangeAt_block h (hb.block b hlt)
theorem Blk.range {w : World} {g : Nat} {t : TypeId} {cs : List Value} (h : Blk w g t cs.toArray) : w.rangeAt g 0 cs := fun j v hv => by
  rw [Nat.zero_add, h.cell]
  simpa using hv
/-- a struct's load, at every later world -/
theorem loadAt_keep {P : Program} {w : World} {b o : Nat} {cs : List Value} (ty : TypeId) (d : TypeDesc) (h : w.rangeAt b o cs) (hlt : b < w.heap.size) (hu : P.underlying ty = some d) (hd : d.isRow = true) (hi : (P.info? ty).map (·.size) = some cs.length) :
    ∀ w', Below w.heap.size w w' → (Instr.loadAt ty (.pointer (some ⟨b, o, none⟩))).run P w' = .ok (.agg cs.toArray) w' := fun w' hb =>
  run_loadAt_mid w' b o ty cs d (rangeAt_below h hb hlt) hu hd hi
theorem Blk.cells {w : World} {g : Nat} {t : TypeId} {cs : Array Value} (h : Blk w g t cs) : ∀ w' j, Below w.heap.size w w' → w'.cell? ⟨g, j, none⟩ = cs[j]? := fun w' j hb => by
  rw [hb.cell (p := ⟨g, j, none⟩) h.lt, h.cell]
/-- a struct's cells, at every later world -/
theorem cells_keep {w : World} {b o : Nat} {cs : List Value} (h : w.rangeAt b o cs) (hlt : b < w.heap.size) :
    (∀ w', Below w.heap.size w w' → 0 < cs.length → w'.cell? ⟨b, o, none⟩ = cs[0]?) ∧ (∀ w' j, Below w.heap.size w w' → j < cs.length → w'.cell? ⟨b, o + j, none⟩ = cs[j]?) := by
  have key : ∀ w' j, Below w.heap.size w w' → j < cs.length → w'.cell? ⟨b, o + j, none⟩ = cs[j]? := fun w' j hb hj => by
    rw [hb.cell (p := ⟨b, o + j, none⟩) hlt, h j _ (List.getElem?_eq_getElem hj), List.getElem?_eq_getElem hj]
  exact ⟨fun w' hb h0 => key w' 0 hb h0, key⟩
theorem cells_now {w : World} {b o : Nat} {cs : List Value} (h : w.rangeAt b o cs) :
    (0 < cs.length → w.cell? ⟨b, o, none⟩ = cs[0]?) ∧ (∀ j, j < cs.length → w.cell? ⟨b, o + j, none⟩ = cs[j]?) := by
  have key : ∀ j, j < cs.length → w.cell? ⟨b, o + j, none⟩ = cs[j]? := fun j hj => by
    rw [h j _ (List.getElem?_eq_getElem hj), List.getElem?_eq_getElem hj]
  exact ⟨fun h0 => key 0 h0, key⟩
theorem rangeAt_drop {w : World} {b o : Nat} {cs : List Value} (h : w.rangeAt b o cs) (k : Nat) : w.rangeAt b (o + k) (cs.drop k) := fun j v hv => by
  rw [List.getElem?_drop] at hv
  have := h (k + j) v hv
  rwa [← Nat.add_assoc] at this
theorem rangeAt_take {w : World} {b o : Nat} {cs : List Value} (h : w.rangeAt b o cs) (k : Nat) : w.rangeAt b o (cs.take k) := fun j v hv => by
  rw [List.getElem?_take] at hv
  split at hv
  · exact h j v hv
  · cases hv
/-- a struct's store into a whole block of the call's own -/
theorem wpList_store_blk {P : Program} {ops : Array Oper} {rest : List Oper} {op : Oper} {a : Act} {w : World} {Q : Exit → Act → World → Prop} (hgd : op.guard = none) (ty : TypeId) (x y : Operand) (ho : op.op = .store ty x y)
    (g : Nat) (t : TypeId) (cur : Array Value) (cs : List Value) (hx : a.eval x = .pointer (some ⟨g, 0, none⟩)) (hy : a.eval y = .agg cs.toArray)
    (hb : Blk w g t cur) (hsz : cur.size = cs.length) (hi : (P.info? ty).map (·.size) = some cs.length) (h1 : ∀ u ∈ cs, u.oneCell' = true)
    (h : ∀ w', Blk w' g t cs.toArray → w.grownBy w' (some g) → wpList P ops Q rest (a.put op.dst undef) w') : wpList P ops Q (op :: rest) a w := by
  refine wpList_plain hgd fun K hK => ?_
  have hr := run_storeVar_row (P := P) w g t ty cur cs.toArray hb.heap (by simpa using hi) (by simpa using hsz) (all_oneCell_toArray h1)
  unfold Oper.wp execOp
  simp only [ho, hx, hy, Instr.storeAt, Instr.sureAddr, Sem.run_bind, Sem.run_pure, Result.andThen_ok, hr]
  exact hK _ _ (h _ ⟨setRow_heap w g cur _ t _ hb.heap⟩ ⟨rfl, rfl, rfl, by simp, fun k _ hk => setRow_other w g k _ (fun e => hk (by simp [e]))⟩)
theorem grownBy_below {w w' : World} {g B : Nat} (h : w.grownBy w' (some g)) (hB : B ≤ g) (hw : B ≤ w.heap.size) : Below B w w' := ⟨h.os, h.tape, h.output, h.size, fun k hk => h.block k (by omega) (fun e => by cases e; omega)⟩
theorem below_grown {a w w' : World} {g : Nat} (h : Below a.heap.size a w) (k : w.grownBy w' (some g)) (hg : a.heap.size ≤ g) : Below a.heap.size a w' := h.trans (grownBy_below k hg h.size)
theorem Blk.grown {w w' : World} {g g' : Nat} {t : TypeId} {cs : Array Value} (h : Blk w g t cs) (hg : w.grownBy w' (some g')) (hne : g ≠ g') : Blk w' g t cs := ⟨(hg.block g h.lt (fun e => hne (by cases e; rfl))).trans h.heap⟩
/-- a struct's store into the variable that was made last -/
theorem wpList_store_new {P : Program} {ops : Array Oper} {rest : List Oper} {op : Oper} {a : Act} {w : World} {Q : Exit → Act → World → Prop} (hgd : op.guard = none) (ty : TypeId) (x y : Operand) (ho : op.op = .store ty x y)
    (g : Nat) (t : TypeId) (cur : Array Value) (cs : List Value) (hx : a.eval x = .pointer (some ⟨g, 0, none⟩)) (hy : a.eval y = .agg cs.toArray) (hg : w.heap.size = g)
    (hsz : cur.size = cs.length) (hi : (P.info? ty).map (·.size) = some cs.length) (h1 : ∀ u ∈ cs, u.oneCell' = true)
    (h : wpList P ops Q rest (a.put op.dst undef) (w.alloc (.cells cs.toArray t))) : wpList P ops Q (op :: rest) a (w.alloc (.cells cur t)) := by
  subst hg
  refine wpList_plain hgd fun K hK => ?_
  have hr := run_storeVar_row (P := P) (w.alloc (.cells cur t)) w.heap.size t ty cur cs.toArray (heap_alloc_new w _) (by simpa using hi) (by simpa using hsz) (all_oneCell_toArray h1)
  unfold Oper.wp execOp
  simp only [ho, hx, hy, Instr.storeAt, Instr.sureAddr, Sem.run_bind, Sem.run_pure, Result.andThen_ok, hr, World.setRow_alloc_new]
  exact hK _ _ h

/-- clear(s[i:]) inside a block of the call's own, elements of one cell -/
theorem wpList_clear {P : Program} {ops : Array Oper} {rest : List Oper} {op : Oper} {a : Act} {w : World} {Q : Exit → Act → World → Prop} (hgd : op.guard = none) (x : Operand) (t : TypeId)
    (ho : op.op = .call { callee := .builtin .clear, args := #[x], argTypes := #[t] }) (e : TypeId) (z : Value) (ht : P.underlying t = some (.slice e)) (hv : ∀ w, (zeroValue e).run P w = .ok z w) (hz : z.cells = #[z]) (h1 : z.oneCell' = true)
    (g off n c : Nat) (cs : List Value) (hx : a.eval x = .slice (some ⟨g, off, none⟩) n c) (hb : Blk w g e cs.toArray) (hn : 0 < n) (hfit : off + n ≤ cs.length)
    (h : ∀ w', Blk w' g e (cs.take off ++ List.replicate n z ++ cs.drop (off + n)).toArray → w.grownBy w' (some g) → wpList P ops Q rest (a.put op.dst (.tuple #[])) w') : wpList P ops Q (op :: rest) a w := by
  refine wpList_plain hgd fun K hK => ?_
  have hzc : (Builtin.zeroCells z.cells n).toList = List.replicate n z := by
    rw [hz]
    simp [Builtin.zeroCells]
    apply List.ext_getElem
    · simp
    · intro i h1 h2
      simp [Nat.mod_one]
  have hst := run_storeCells_at P g off e (List.replicate n z) 0 cs.toArray w hb.heap (by simpa using hfit) (by intro v hv'; rw [List.eq_of_mem_replicate hv']; exact h1)
  simp only [Nat.add_zero] at hst
  obtain ⟨m, rfl⟩ : ∃ m, n = m + 1 := ⟨n - 1, by omega⟩
  unfold Oper.wp execOp
  have hrun : (Builtin.clear_ #[t] op.type #[.slice (some ⟨g, off, none⟩) (m + 1) c]).run P w = .ok (.tuple #[]) (w.setRow g (cs.take off ++ List.replicate (m + 1) z ++ cs.drop (off + (m + 1))).toArray) := by
    simp [Builtin.clear_, run_underlying ht, hv, hzc, hst]
  simp only [ho, resolve, invoke, builtin, Sem.run_bind, Sem.run_pure, Result.andThen_ok, List.map_toArray, List.map_cons, List.map_nil, hx, hrun]
  exact hK _ _ (h _ ⟨setRow_heap w g cs.toArray _ e _ hb.heap⟩ ⟨rfl, rfl, rfl, by simp, fun k _ hk => setRow_other w g k _ (fun e => hk (by simp [e]))⟩)

/-- one cell of a block of the call's own -/
theorem Blk.set_ {w : World} {g : Nat} {t : TypeId} {cs : List Value} (h : Blk w g t cs.toArray) (i : Nat) (u : Value) : Blk (w.setCell ⟨g, i, none⟩ u) g t (cs.set i u).toArray := by
  have := h.heap
  refine ⟨?_⟩
  simp [World.setCell, Array.getElem?_modify, this]
theorem grownBy_setCell (w : World) (g i : Nat) (u : Value) : w.grownBy (w.setCell ⟨g, i, none⟩ u) (some g) :=
  ⟨rfl, rfl, rfl, by simp [World.setCell], fun k _ hk => Below.heap_setCell w ⟨g, i, none⟩ u k (fun e => hk (by simp [e]))⟩
theorem grownBy_trans {a b c : World} {g : Nat} (h : a.grownBy b (some g)) (k : b.grownBy c (some g)) : a.grownBy c (some g) :=
  ⟨k.os.trans h.os, k.tape.trans h.tape, k.output.trans h.output, Nat.le_trans h.size k.size, fun i hi hne => (k.block i (Nat.lt_of_lt_of_le hi h.size) hne).trans (h.block i hi hne)⟩
theorem grownBy_step {a b c : World} {g : Nat} (h : a.grownBy b (some g)) (k : Below b.heap.size b c) : a.grownBy c (some g) :=
  ⟨k.os.trans h.os, k.tape.trans h.tape, k.output.trans h.output, Nat.le_trans h.size k.size, fun i hi hne => (k.block i (Nat.lt_of_lt_of_le hi h.size)).trans (h.block i hi hne)⟩
theorem grownBy_refl (w : World) (g : Nat) : w.grownBy w (some g) := ⟨rfl, rfl, rfl, Nat.le_refl _, fun _ _ _ => rfl⟩
/-- a slice of the call's own, its whole block known -/
theorem ownsRow_blk {w : World} {base : Nat} {e : TypeId} {size n cap g : Nat} {xs : List Value} (h : w.ownsRow base e size (.slice (some ⟨g, 0, none⟩) n cap) n xs) :
    ∃ T : List Value, Blk w g e (xs ++ T).toArray ∧ base ≤ g ∧ n ≤ cap ∧ cap ≤ maxLen ∧ (xs ++ T).length = cap * size ∧ xs.length = n * size := by
  rcases h.2 with ⟨hv, _⟩ | ⟨g', cap', cur, hv, hb, hg, hc, hm, hs, ht⟩
  · cases hv
  · cases hv
    refine ⟨cur.toList.drop (n * size), ⟨?_⟩, hb, hc, hm, ?_, h.1⟩
    · rw [← ht, List.take_append_drop]
      exact hg
    · rw [← ht, List.take_append_drop]
      simpa using hs
theorem blk_ownsRow {w : World} {base : Nat} {e : TypeId} {size n cap g : Nat} {xs T : List Value} (h : Blk w g e (xs ++ T).toArray) (hb : base ≤ g) (hc : n ≤ cap) (hm : cap ≤ maxLen) (hl : (xs ++ T).length = cap * size) (hx : xs.length = n * size) :
    w.ownsRow base e size (.slice (some ⟨g, 0, none⟩) n cap) n xs :=
  ⟨hx, .inr ⟨g, cap, _, rfl, hb, h.heap, hc, hm, by simpa using hl, by rw [← hx]; simp⟩⟩

end Go.Proofs.YtjeligbgcofaeaaDoor
