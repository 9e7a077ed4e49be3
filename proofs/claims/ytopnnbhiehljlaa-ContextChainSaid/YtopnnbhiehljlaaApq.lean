/- append of any number of elements, none too. -/
import Derived.Test.YtopnnbhiehljlaaApp
namespace Go.My
set_option linter.unusedVariables false
open Go.RowKit

section
variable {P : Program} (w : World)
theorem run_append_zero (t ty e : TypeId) (i : TypeInfo) (ht : P.underlying t = some (.slice e)) (hi : P.info? e = some i) (A : Option Addr) (n cap : Nat) (hA : A = none → n = 0) (hn : n ≤ cap) (X : Option Addr) (c : Nat) :
    (Builtin.append_ #[t, t] ty #[.slice A n cap, .slice X 0 c]).run P w = .ok (.slice A n cap) w := by
  cases A with
  | none =>
    have := hA rfl
    subst this
    cases X <;> simp [Builtin.append_, run_underlying ht, sizeOf, typeInfo, hi, Builtin.lenOf, Builtin.firstCells, loadCells, loadCellsFrom]
  | some a =>
    cases X <;> simp [Builtin.append_, run_underlying ht, sizeOf, typeInfo, hi, Builtin.lenOf, Builtin.firstCells, loadCells, loadCellsFrom, hn, storeCells]
theorem own_cap {B e s n : Nat} {A : Option Addr} {cap : Nat} {xs : List Value} (h : w.ownsRow B e s (.slice A n cap) n xs) : (A = none → n = 0) ∧ n ≤ cap := by
  obtain ⟨_, ⟨h2, h3⟩ | ⟨g, c, cur, e1, _, _, e2, _⟩⟩ := h
  · injection h2 with a b c
    exact ⟨fun _ => h3, by omega⟩
  · injection e1 with a b c
    exact ⟨fun h => (by rw [h] at a; cases a), by omega⟩

/-- What an append leaves. -/
structure Appended (P : Program) (w : World) (base e size : Nat) (v : Value) (n m : Nat) (xs news : List Value) (A' : Option Addr) (cap' : Nat) (w' : World) : Prop where
  own : w'.ownsRow base e size (.slice A' (n + m) cap') (n + m) (xs ++ news)
  fr : Fr (fun k => v.ownBlock = some k) w w'
  foot : ∀ k, (Value.slice A' (n + m) cap').ownBlock = some k → v.ownBlock = some k ∨ w.heap.size ≤ k
theorem run_append_all (t ty : TypeId) (base : Nat) (e : TypeId) (i : TypeInfo) (z : Value) (size bytes : Nat) (ht : P.underlying t = some (.slice e)) (hi : P.info? e = some i) (hz : i.zero = some z)
    (hsize : i.size = size) (hby : i.bytes = bytes) (hzs : z.cells.size = size) (hsz : 0 < size)
    (v : Value) (n : Nat) (xs : List Value) (hown : w.ownsRow base e size v n xs)
    (X : Option Addr) (m c : Nat) (news : List Value) (hl : news.length = m * size) (hnews : 0 < m → ∃ ad : Addr, X = some ad ∧ ∀ j u, news[j]? = some u → w.cell? (ad.add j) = some u) (h1 : ∀ u ∈ news, u.oneCell' = true)
    (h63 : n + m ≤ maxLen) (hbytes : (n + m) * bytes ≤ 140737488355328) (hbase : base ≤ w.heap.size) :
    ∃ A' cap' w', (Builtin.append_ #[t, t] ty #[v, .slice X m c]).run P w = .ok (.slice A' (n + m) cap') w' ∧ Appended P w base e size v n m xs news A' cap' w' := by
  rcases Nat.eq_zero_or_pos m with rfl | hm
  · obtain ⟨A, cap, rfl⟩ := own_any hown
    obtain ⟨k1, k2⟩ := own_cap w hown
    refine ⟨A, cap, w, run_append_zero w t ty e i ht hi A n cap k1 k2 X c, ?_, Fr.refl _ _, fun k hk => .inl hk⟩
    obtain rfl : news = [] := List.eq_nil_of_length_eq_zero (by rw [hl]; simp)
    simpa using hown
  · obtain ⟨ad, rfl, hn2⟩ := hnews hm
    obtain ⟨g, cap, w', hr, h2, h3, h4, h5, h6⟩ := run_append_my (P := P) w t ty base e i z size bytes ht hi hz hsize hby hzs hsz v n xs hown ad m c news hl hn2 h1 hm h63 hbytes hbase _ rfl
    refine ⟨_, cap, w', hr, h2, Fr.grown (Fr.refl _ _) h3 (fun k hk => .inl hk), fun k hk => ?_⟩
    simp [Value.ownBlock] at hk
    subst hk
    exact h4.imp id (fun h => by omega)
/-- At a step of a region that draws its order. -/
theorem step_append_all {ops : Array Oper} {o : Oper} {a : Act} {K : Act → World → Prop} {Q : Exit → Act → World → Prop} {E : Prop} (hgd : o.guard = none) (s x : Operand) (t : TypeId)
    (ho : o.op = .call { callee := .builtin .append, args := #[s, x], argTypes := #[t, t] })
    (base : Nat) (e : TypeId) (i : TypeInfo) (z : Value) (size bytes : Nat) (ht : P.underlying t = some (.slice e)) (hi : P.info? e = some i) (hz : i.zero = some z)
    (hsize : i.size = size) (hby : i.bytes = bytes) (hzs : z.cells.size = size) (hsz : 0 < size)
    (v : Value) (n : Nat) (xs : List Value) (hs : a.eval s = v) (hown : w.ownsRow base e size v n xs)
    (X : Option Addr) (m c : Nat) (news : List Value) (hx : a.eval x = .slice X m c) (hl : news.length = m * size) (hnews : 0 < m → ∃ ad : Addr, X = some ad ∧ ∀ j u, news[j]? = some u → w.cell? (ad.add j) = some u) (h1 : ∀ u ∈ news, u.oneCell' = true)
    (h63 : n + m ≤ maxLen) (hbytes : (n + m) * bytes ≤ 140737488355328) (hbase : base ≤ w.heap.size)
    (h : ∀ A' cap' w', Appended P w base e size v n m xs news A' cap' w' → K (a.put o.dst (.slice A' (n + m) cap')) w') :
    if Region.wanted o (yielded ops a.tmps) = true then Oper.wp P o a w K Q else E := by
  have hw : Region.wanted o (yielded ops a.tmps) = true := by simp [Region.wanted, hgd]
  rw [if_pos hw]
  obtain ⟨A', cap', w', hr, h2⟩ := run_append_all (P := P) w t o.type base e i z size bytes ht hi hz hsize hby hzs hsz v n xs hown X m c news hl hnews h1 h63 hbytes hbase
  unfold Oper.wp execOp
  simp only [ho, resolve, invoke, builtin, Sem.run_bind, Sem.run_pure, Result.andThen_ok, List.map_toArray, List.map_cons, List.map_nil, hs, hx, hr]
  exact h A' cap' w' h2
/-- At the list of a plain region's operations. -/
theorem wpList_append_all {ops : Array Oper} {rest : List Oper} {o : Oper} {a : Act} {Q : Exit → Act → World → Prop} (hgd : o.guard = none) (s x : Operand) (t : TypeId)
    (ho : o.op = .call { callee := .builtin .append, args := #[s, x], argTypes := #[t, t] })
    (base : Nat) (e : TypeId) (i : TypeInfo) (z : Value) (size bytes : Nat) (ht : P.underlying t = some (.slice e)) (hi : P.info? e = some i) (hz : i.zero = some z)
    (hsize : i.size = size) (hby : i.bytes = bytes) (hzs : z.cells.size = size) (hsz : 0 < size)
    (v : Value) (n : Nat) (xs : List Value) (hs : a.eval s = v) (hown : w.ownsRow base e size v n xs)
    (X : Option Addr) (m c : Nat) (news : List Value) (hx : a.eval x = .slice X m c) (hl : news.length = m * size) (hnews : 0 < m → ∃ ad : Addr, X = some ad ∧ ∀ j u, news[j]? = some u → w.cell? (ad.add j) = some u) (h1 : ∀ u ∈ news, u.oneCell' = true)
    (h63 : n + m ≤ maxLen) (hbytes : (n + m) * bytes ≤ 140737488355328) (hbase : base ≤ w.heap.size)
    (h : ∀ A' cap' w', Appended P w base e size v n m xs news A' cap' w' → wpList P ops Q rest (a.put o.dst (.slice A' (n + m) cap')) w') : wpList P ops Q (o :: rest) a w := by
  refine wpList_plain hgd fun K hK => ?_
  obtain ⟨A', cap', w', hr, h2⟩ := run_append_all (P := P) w t o.type base e i z size bytes ht hi hz hsize hby hzs hsz v n xs hown X m c news hl hnews h1 h63 hbytes hbase
  unfold Oper.wp execOp
  simp only [ho, resolve, invoke, builtin, Sem.run_bind, Sem.run_pure, Result.andThen_ok, List.map_toArray, List.map_cons, List.map_nil, hs, hx, hr]
  exact hK _ _ (h A' cap' w' h2)
/-- The cells of a row, to be appended. -/
theorem own_news {w : World} {B e s m : Nat} {X : Option Addr} {c : Nat} {xs : List Value} (h : w.ownsRow B e s (.slice X m c) m xs) : 0 < m → ∃ ad : Addr, X = some ad ∧ ∀ j u, xs[j]? = some u → w.cell? (ad.add j) = some u := by
  intro hm
  obtain ⟨g, cap, hv⟩ := own_slice h hm
  injection hv with h1
  subst h1
  exact ⟨_, rfl, h.cells rfl⟩
end
end Go.My
