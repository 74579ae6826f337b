/- The reference's Best, its lists: six slices of the call's own, side by side. -/
import Derived.Test.YtngfabnkgpidjaaRefKeep
namespace Go.Proofs.Ytngfabnkgpidjaa
open Go.RowKit
set_option linter.unusedVariables false
set_option linter.unusedSimpArgs false

/-- slices of the call's own, each in a block of its own -/
structure Owns (w : World) (base : Nat) (e : TypeId) (vs : List Value) (xss : List (List Value)) : Prop where
  len : vs.length = xss.length
  own : ∀ (i : Nat) (v : Value) (xs : List Value), vs[i]? = some v → xss[i]? = some xs → w.ownsRow base e 1 v xs.length xs
  apart : ∀ (i j : Nat) (v u : Value), vs[i]? = some v → vs[j]? = some u → i ≠ j → v.ownBlock = none ∨ v.ownBlock ≠ u.ownBlock
theorem Owns.nil (w : World) (base : Nat) (e : TypeId) : Owns w base e [] [] := ⟨rfl, fun i v xs h => by simp at h, fun i j v u h => by simp at h⟩
theorem Owns.kept {w w' : World} {base : Nat} {e : TypeId} {vs : List Value} {xss : List (List Value)} (h : Owns w base e vs xss) (hg : Below w.heap.size w w') : Owns w' base e vs xss :=
  ⟨h.len, fun i v xs hv hx => (h.own i v xs hv hx).kept (grownBy_of_below hg) (own_ne _), h.apart⟩
theorem Owns.alloc {w : World} {base : Nat} {e : TypeId} {vs : List Value} {xss : List (List Value)} (h : Owns w base e vs xss) (o : Obj) : Owns (w.alloc o) base e vs xss :=
  h.kept ((Below.refl _ _).alloc (Nat.le_refl _) _)
theorem Owns.made {w : World} {base : Nat} {e : TypeId} {vs : List Value} {xss : List (List Value)} (h : Owns w base e vs xss) (hb : base ≤ w.heap.size) :
    Owns (w.alloc (.cells #[] e)) base e (vs ++ [.slice (some ⟨w.heap.size, 0, none⟩) 0 0]) (xss ++ [[]]) := by
  have hn : (w.alloc (.cells #[] e)).ownsRow base e 1 (.slice (some ⟨w.heap.size, 0, none⟩) 0 0) 0 [] :=
    World.ownsRow_made (base := base) (e := e) (size := 1) w #[] 0 (by simpa using hb) (by simp [maxLen]) (by simp)
  have key : ∀ (i : Nat) (v : Value), (vs ++ [Value.slice (some ⟨w.heap.size, 0, none⟩) 0 0])[i]? = some v → (vs[i]? = some v) ∨ (i = vs.length ∧ v = .slice (some ⟨w.heap.size, 0, none⟩) 0 0) := by
    intro i v hv
    rw [List.getElem?_append] at hv
    by_cases hi : i < vs.length
    · rw [if_pos hi] at hv; exact .inl hv
    · rw [if_neg hi] at hv
      obtain ⟨h1, h2⟩ := List.getElem?_eq_some_iff.1 hv
      simp at h1
      obtain rfl : i = vs.length := by omega
      exact .inr ⟨rfl, by simpa using h2.symm⟩
  refine ⟨by simp [h.len], fun i v xs hv hx => ?_, fun i j v u hv hu hne => ?_⟩
  · rcases key i v hv with h1 | ⟨rfl, rfl⟩
    · have hi := (List.getElem?_eq_some_iff.1 h1).1
      rw [List.getElem?_append_left (by rw [← h.len]; exact hi)] at hx
      exact (h.alloc _).own i v xs h1 hx
    · rw [h.len, List.getElem?_append_right (Nat.le_refl _)] at hx
      simp at hx
      subst hx
      exact hn
  · have old : ∀ (i : Nat) (v : Value), vs[i]? = some v → v.ownBlock ≠ some w.heap.size := fun i v h1 he => by
      have hi := (List.getElem?_eq_some_iff.1 h1).1
      obtain ⟨xs, hx⟩ : ∃ xs, xss[i]? = some xs := ⟨_, List.getElem?_eq_getElem (by rw [← h.len]; exact hi)⟩
      have := ((h.own i v xs h1 hx).lt _ he).2
      omega
    rcases key i v hv with h1 | ⟨rfl, rfl⟩
    · rcases key j u hu with h2 | ⟨rfl, rfl⟩
      · exact h.apart i j v u h1 h2 hne
      · exact .inr (old i v h1)
    · rcases key j u hu with h2 | ⟨rfl, rfl⟩
      · exact .inr (fun e => old j u h2 (e.symm))
      · exact absurd rfl hne
theorem Owns.push {w w' : World} {base : Nat} {e : TypeId} {vs : List Value} {xss : List (List Value)} (h : Owns w base e vs xss) {i : Nat} {v v' : Value} {xs' : List Value} (hi : vs[i]? = some v) (hg : w.grownBy w' v.ownBlock) (ho : w'.ownsRow base e 1 v' xs'.length xs')
    (hv : v'.ownBlock = v.ownBlock ∨ v'.ownBlock = some w.heap.size) : Owns w' base e (vs.set i v') (xss.set i xs') := by
  have old : ∀ (j : Nat) (u : Value), vs[j]? = some u → u.ownBlock ≠ some w.heap.size := fun j u h1 he => by
    have hj := (List.getElem?_eq_some_iff.1 h1).1
    obtain ⟨xs, hx⟩ : ∃ xs, xss[j]? = some xs := ⟨_, List.getElem?_eq_getElem (by rw [← h.len]; exact hj)⟩
    have := ((h.own j u xs h1 hx).lt _ he).2
    omega
  have hil := (List.getElem?_eq_some_iff.1 hi).1
  refine ⟨by simp [h.len], fun j u xs hu hx => ?_, fun j k u y hu hy hne => ?_⟩
  · rw [List.getElem?_set] at hu hx
    by_cases hj : i = j
    · subst hj
      rw [if_pos rfl, if_pos hil] at hu
      rw [if_pos rfl, if_pos (by rw [← h.len]; exact hil)] at hx
      cases hu
      cases hx
      exact ho
    · rw [if_neg hj] at hu hx
      exact (h.own j u xs hu hx).kept hg (h.apart j i u v hu hi (fun e => hj e.symm))
  · rw [List.getElem?_set] at hu hy
    by_cases hj : i = j
    · subst hj
      rw [if_pos rfl, if_pos hil] at hu
      rw [if_neg hne] at hy
      cases hu
      rcases hv with hv | hv
      · rw [hv]; exact h.apart i k v y hi hy hne
      · rw [hv]; exact .inr (fun e => old k y hy e.symm)
    · rw [if_neg hj] at hu
      by_cases hk : i = k
      · subst hk
        rw [if_pos rfl, if_pos hil] at hy
        cases hy
        rcases hv with hv | hv
        · rw [hv]; exact h.apart j i u v hu hi hne
        · rw [hv]; exact .inr (old j u hu)
      · rw [if_neg hk] at hy
        exact h.apart j k u y hu hy hne

structure RRoute.Fits (r : RRoute) : Prop where
  loc : 0 ≤ r.loc ∧ r.loc ≤ 4294967295
  hops : -9223372036854775808 ≤ r.hops ∧ r.hops ≤ 9223372036854775807
  origin : -9223372036854775808 ≤ r.origin ∧ r.origin ≤ 9223372036854775807
  id : 0 ≤ r.id ∧ r.id ≤ 4294967295
  peer : -9223372036854775808 ≤ r.peer ∧ r.peer ≤ 9223372036854775807
def rrouteR : Rep RRoute := fun _ _ cs r => cs = r.row ∧ r.Fits
theorem rrouteR_ok : rrouteR.Ok 7 := by
  refine ⟨?_, ?_, ?_⟩
  · rintro w F cs x ⟨rfl, _⟩
    rfl
  · rintro w F cs x ⟨rfl, _⟩ u hu
    simp [RRoute.row] at hu
    rcases hu with rfl | rfl | rfl | rfl | rfl | rfl | rfl <;> rfl
  · rintro w w' F F' cs x h _ _
    exact h
def placeVs (k : Nat) : List Value := (List.range k).map placeV
def likesV (rs : List RRoute) : List Value := rs.map fun r => .int .i64 (4294967296 - r.loc)
def hopsV (rs : List RRoute) : List Value := rs.map fun r => .int .i64 r.hops
def originsV (rs : List RRoute) : List Value := rs.map fun r => .int .i64 r.origin
def idsV (rs : List RRoute) : List Value := rs.map fun r => .int .i64 r.id
def peersV (rs : List RRoute) : List Value := rs.map fun r => .int .i64 r.peer
theorem map_snoc {f : RRoute → Value} {rs : List RRoute} {k : Nat} {r : RRoute} (hx : rs[k]? = some r) : (rs.take (k + 1)).map f = (rs.take k).map f ++ [f r] := by
  rw [List.take_add_one, hx, List.map_append]
  rfl
theorem places_snoc (k : Nat) : placeVs (k + 1) = placeVs k ++ [.int .i64 (k : Int)] := by
  simp [placeVs, List.range_succ, placeV]

/-- an append onto a row of the call's own, and where the new row lies -/
theorem wpList_push_own {P : Program} (w : World) {ops : Array Oper} {rest : List Oper} {o : Oper} {a : Act} {Q : Exit → Act → World → Prop} (hgd : o.guard = none) (s x : Operand) (t : TypeId)
    (ho : o.op = .call { callee := .builtin .append, args := #[s, x], argTypes := #[t, t] }) 
    (base : Nat) (e : TypeId) (i : TypeInfo) (z : Value) (size bytes : Nat) (ht : P.underlying t = some (.slice e)) (hi : P.info? e = some i) (hz : i.zero = some z)
    (hsize : i.size = size) (hby : i.bytes = bytes) (hzs : z.cells.size = size) (hsz : 0 < size)
    (v : Value) (n : Nat) (xs : List Value) (hs : a.eval s = v) (hown : w.ownsRow base e size v n xs)
    (ad : Addr) (m c : Nat) (news : List Value) (hx : a.eval x = .slice (some ad) m c) (hnl : news.length = m * size) (hnews : ∀ j u, news[j]? = some u → w.cell? (ad.add j) = some u) (h1 : ∀ u ∈ news, u.oneCell' = true)
    (h63 : n + m ≤ 4194304) (hbytes : bytes ≤ 4096) (hbase : base ≤ w.heap.size)
    (h : ∀ v' w', w'.ownsRow base e size v' (n + m) (xs ++ news) → w.grownBy w' v.ownBlock → (v'.ownBlock = v.ownBlock ∨ v'.ownBlock = some w.heap.size) → wpList P ops Q rest (a.put o.dst v') w') : wpList P ops Q (o :: rest) a w := by
  refine wpList_plain hgd fun K hK => ?_
  have hbb : (n + m) * bytes ≤ 140737488355328 := by
    have : (n + m) * bytes ≤ 4194304 * 4096 := Nat.mul_le_mul h63 hbytes
    omega
  obtain ⟨v', w', hrun, r1, r2, _, r4⟩ := run_append_own_at (P := P) w base t o.type e i z size bytes ht hi hz hsize hby hzs hsz v n xs hown ad m c news hnl hnews h1 (by simp only [maxLen]; omega) hbb hbase
  unfold Oper.wp execOp
  simp only [ho, resolve, invoke, builtin, Sem.run_bind, Sem.run_pure, Result.andThen_ok, List.map_toArray, List.map_cons, List.map_nil, hs, hx, hrun]
  exact hK _ _ (h v' w' r1 r2 r4)
/-- the lists, the call's own, beside a variable's block -/
structure Side (w X : World) (e : TypeId) (G : Nat) (t : TypeId) (row : Array Value) (vs : List Value) (xss : List (List Value)) : Prop where
  own : Owns X w.heap.size e vs xss
  blk : Blk X G t row
  off : ∀ (i : Nat) (v : Value), vs[i]? = some v → v.ownBlock ≠ some G
  below : Below w.heap.size w X
theorem Side.of {w X : World} {e : TypeId} {vs : List Value} {xss : List (List Value)} (h : Owns X w.heap.size e vs xss) (hB : Below w.heap.size w X) (t : TypeId) (row : Array Value) : Side w (X.alloc (.cells row t)) e X.heap.size t row vs xss :=
  ⟨h.alloc _, Blk.new _ _ _, fun i v hv he => by
    have hi := (List.getElem?_eq_some_iff.1 hv).1
    obtain ⟨xs, hx⟩ : ∃ xs, xss[i]? = some xs := ⟨_, List.getElem?_eq_getElem (by rw [← h.len]; exact hi)⟩
    have := ((h.own i v xs hv hx).lt _ he).2
    omega, hB.alloc hB.size _⟩
theorem Side.push {w X w' : World} {e : TypeId} {G : Nat} {t : TypeId} {row : Array Value} {vs : List Value} {xss : List (List Value)} (h : Side w X e G t row vs xss) (o : Obj) (i : Nat) {v v' x : Value} {xs : List Value} (hi : vs[i]? = some v) (hx : xss[i]? = some xs)
    (hg : (X.alloc o).grownBy w' v.ownBlock) (ho : w'.ownsRow w.heap.size e 1 v' (xs.length + 1) (xs ++ [x])) (hv0 : v'.ownBlock = v.ownBlock ∨ v'.ownBlock = some (X.heap.size + 1)) : Side w w' e G t row (vs.set i v') (xss.set i (xs ++ [x])) := by
  have hl : (xs ++ [x]).length = xs.length + 1 := by simp
  have hv : v'.ownBlock = v.ownBlock ∨ v'.ownBlock = some (X.alloc o).heap.size := by rw [World.size_alloc]; exact hv0
  have hGl : G < (X.alloc o).heap.size := (h.blk.alloc o).lt
  have hil := (List.getElem?_eq_some_iff.1 hi).1
  refine ⟨(h.own.alloc o).push hi hg (hl ▸ ho) hv, ⟨(hg.block G hGl (fun e => h.off i v hi e.symm)).trans (h.blk.alloc o).heap⟩, fun j u hu he => ?_, (h.below.alloc h.below.size o).grown hg (by have := h.below.size; simp; omega) fun g hgg => (((h.own.alloc o).own i v xs hi hx).lt g hgg).1⟩
  rw [List.getElem?_set] at hu
  by_cases hj : i = j
  · rw [if_pos hj, if_pos hil] at hu
    cases hu
    rcases hv with hv | hv
    · exact h.off i v hi (hv ▸ he)
    · rw [hv] at he
      cases he
      omega
  · rw [if_neg hj] at hu
    exact h.off j u hu he

end Go.Proofs.Ytngfabnkgpidjaa
