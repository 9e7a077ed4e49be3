/- Small lemmas on worlds: what a call may have turned ('Fr S w w''), blocks, rows. -/
import Derived.WalkKit
import Derived.Deep.Draws
import Derived.Maps.AppendAt
import Derived.Lib.Hide
import Derived.Below
import Derived.Laws.Rows
import Derived.Laws.AppendOwn
namespace Go.My
set_option linter.unusedVariables false
open Go.RowKit

/-- Outside of the blocks of S nothing that was there has turned. -/
structure Fr (S : Nat → Prop) (w w' : World) : Prop where
  os : w'.os = w.os
  tape : w'.tape = w.tape
  output : w'.output = w.output
  size : w.heap.size ≤ w'.heap.size
  block : ∀ k, k < w.heap.size → ¬ S k → w'.heap[k]? = w.heap[k]?

theorem Fr.refl (S : Nat → Prop) (w : World) : Fr S w w := ⟨rfl, rfl, rfl, Nat.le_refl _, fun _ _ _ => rfl⟩
theorem Fr.trans {S T : Nat → Prop} {a b c : World} (h : Fr S a b) (k : Fr T b c) (hT : ∀ i, T i → S i ∨ a.heap.size ≤ i) : Fr S a c :=
  ⟨k.os.trans h.os, k.tape.trans h.tape, k.output.trans h.output, Nat.le_trans h.size k.size, fun i hi hs =>
    (k.block i (Nat.lt_of_lt_of_le hi h.size) (fun ht => (hT i ht).elim hs (by omega))).trans (h.block i hi hs)⟩
theorem Fr.mono {S T : Nat → Prop} {a b : World} (h : Fr S a b) (hT : ∀ i, S i → T i ∨ a.heap.size ≤ i) : Fr T a b :=
  ⟨h.os, h.tape, h.output, h.size, fun i hi ht => h.block i hi (fun hs => (hT i hs).elim ht (by omega))⟩
theorem Fr.drewN {S : Nat → Prop} {a b : World} (h : Fr S a b) (n : Nat) : Fr S a (b.drewN n) := ⟨h.os, h.tape, h.output, h.size, h.block⟩
theorem Fr.drew {S : Nat → Prop} {a b : World} (h : Fr S a b) : Fr S a b.drew := ⟨h.os, h.tape, h.output, h.size, h.block⟩
theorem Fr.alloc {S : Nat → Prop} {a b : World} (h : Fr S a b) (o : Obj) : Fr S a (b.alloc o) :=
  ⟨h.os, h.tape, h.output, Nat.le_trans h.size (by simp), fun k hk hs => (Below.heap_alloc b o k (Nat.lt_of_lt_of_le hk h.size)).trans (h.block k hk hs)⟩
theorem Fr.setCell {S : Nat → Prop} {a b : World} (h : Fr S a b) (p : Addr) (u : Value) (hp : S p.block ∨ a.heap.size ≤ p.block) : Fr S a (b.setCell p u) :=
  ⟨h.os, h.tape, h.output, by simpa [World.setCell] using h.size, fun k hk hs =>
    (Below.heap_setCell b p u k (fun e => by subst e; exact hp.elim hs (by omega))).trans (h.block k hk hs)⟩
theorem Fr.grown {S : Nat → Prop} {a b c : World} {row : Option Nat} (h : Fr S a b) (hg : b.grownBy c row) (hr : ∀ k, row = some k → S k ∨ a.heap.size ≤ k) : Fr S a c :=
  ⟨hg.os.trans h.os, hg.tape.trans h.tape, hg.output.trans h.output, Nat.le_trans h.size hg.size, fun k hk hs =>
    (hg.block k (Nat.lt_of_lt_of_le hk h.size) (fun e => (hr k e.symm).elim hs (by omega))).trans (h.block k hk hs)⟩
theorem Fr.below {S : Nat → Prop} {a b : World} (h : Fr S a b) (hS : ∀ k, S k → a.heap.size ≤ k) : Below a.heap.size a b :=
  ⟨h.os, h.tape, h.output, h.size, fun k hk => h.block k hk (fun hs => by have := hS k hs; omega)⟩
theorem Fr.of_below {S : Nat → Prop} {a b : World} (h : Below a.heap.size a b) : Fr S a b := ⟨h.os, h.tape, h.output, h.size, fun k hk _ => h.block k hk⟩
theorem Fr.keep {S : Nat → Prop} {a b : World} (h : Fr S a b) {k : Nat} {o : Obj} (hk : a.heap[k]? = some o) (hs : ¬ S k) : b.heap[k]? = some o :=
  (h.block k (Array.getElem?_eq_some_iff.1 hk).1 hs).trans hk

theorem lt_of_block {w : World} {k : Nat} {o : Obj} (h : w.heap[k]? = some o) : k < w.heap.size := (Array.getElem?_eq_some_iff.1 h).1

/-- The block of a cell after a store into it. -/
theorem block_setCell {w : World} {b off : Nat} {cs : Array Value} {t : TypeId} {fr : Nat × Nat} (h : w.heap[b]? = some (.cells cs t fr)) (v : Value) :
    (w.setCell ⟨b, off, none⟩ v).heap[b]? = some (.cells (cs.setIfInBounds off v) t fr) := by
  simp [World.setCell, Array.getElem?_modify, h]
theorem block_setCell_other {w : World} {b k : Nat} {off : Nat} {o : Obj} (h : w.heap[k]? = some o) (hne : k ≠ b) (v : Value) :
    (w.setCell ⟨b, off, none⟩ v).heap[k]? = some o := (Below.heap_setCell w ⟨b, off, none⟩ v k hne).trans h
theorem block_alloc {w : World} {k : Nat} {o x : Obj} (h : w.heap[k]? = some o) : (w.alloc x).heap[k]? = some o :=
  (Below.heap_alloc w x k (lt_of_block h)).trans h

theorem cell_of {w : World} {b : Nat} {cs : Array Value} {t : TypeId} {fr : Nat × Nat} (h : w.heap[b]? = some (.cells cs t fr)) (j : Nat) : w.cell? ⟨b, j, none⟩ = cs[j]? :=
  cell_of_row w b j cs t fr h
theorem block_alloc_cell {w : World} (o : Obj) {b j : Nat} (hb : b < w.heap.size) : (w.alloc o).cell? ⟨b, j, none⟩ = w.cell? ⟨b, j, none⟩ :=
  World.cell?_of_block (w := w) (Below.heap_alloc w o b hb)
theorem free_of {w : World} {b : Nat} {cs : Array Value} {t : TypeId} (h : w.heap[b]? = some (.cells cs t (0, 0))) (j : Nat) : w.frozen? ⟨b, j, none⟩ = false := by
  simp [World.frozen?, h]

/-- A row stays owned where its block did not turn. -/
theorem own_keep {w w' : World} {B e s n : Nat} {v : Value} {xs : List Value} {S : Nat → Prop} (h : w.ownsRow B e s v n xs) (hf : Fr S w w') (hs : ∀ k, v.ownBlock = some k → ¬ S k) : w'.ownsRow B e s v n xs := by
  refine ⟨h.1, ?_⟩
  rcases h.2 with hn | ⟨g, cap, cur, rfl, hb, hgg, rest⟩
  · exact .inl hn
  · exact .inr ⟨g, cap, cur, rfl, hb, hf.keep hgg (hs g rfl), rest⟩

theorem own_slice {w : World} {B e s n : Nat} {v : Value} {xs : List Value} (h : w.ownsRow B e s v n xs) (hn : 0 < n) : ∃ g cap, v = .slice (some ⟨g, 0, none⟩) n cap := by
  rcases h.2 with ⟨_, h⟩ | ⟨g, cap, _, h, _⟩
  · omega
  · exact ⟨g, cap, h⟩
theorem own_any {w : World} {B e s n : Nat} {v : Value} {xs : List Value} (h : w.ownsRow B e s v n xs) : ∃ a cap, v = .slice a n cap := by
  rcases h.2 with ⟨e, rfl⟩ | ⟨g, cap, _, e, _⟩
  · exact ⟨_, _, e⟩
  · exact ⟨_, _, e⟩

theorem ne_of_ty {w : World} {a b : Nat} {ca cb : Array Value} {ta tb : TypeId} {fa fb : Nat × Nat} (h1 : w.heap[a]? = some (.cells ca ta fa)) (h2 : w.heap[b]? = some (.cells cb tb fb)) (hne : ta ≠ tb) : a ≠ b := by
  rintro rfl
  rw [h1] at h2
  injection h2 with h
  injection h with _ h3 _
  exact hne h3
theorem own_ty {w : World} {B e s n g : Nat} {v : Value} {xs : List Value} (h : w.ownsRow B e s v n xs) (hg : v.ownBlock = some g) : ∃ cur, w.heap[g]? = some (.cells cur e (0, 0)) := by
  rcases h.2 with ⟨hv, _⟩ | ⟨g0, cap, cur, rfl, _, hgg, _⟩
  · subst hv; cases hg
  · obtain rfl : g0 = g := by simpa [Value.ownBlock] using hg
    exact ⟨cur, hgg⟩
theorem own_base {w : World} {B e s n g : Nat} {v : Value} {xs : List Value} (h : w.ownsRow B e s v n xs) (hg : v.ownBlock = some g) : B ≤ g := by
  rcases h.2 with ⟨hv, _⟩ | ⟨g0, cap, cur, rfl, hb, hgg, _⟩
  · subst hv; cases hg
  · obtain rfl : g0 = g := by simpa [Value.ownBlock] using hg
    exact hb
theorem own_same {w w' : World} {B e s n : Nat} {v : Value} {xs : List Value} (h : w.ownsRow B e s v n xs) (hk : ∀ g, v.ownBlock = some g → w'.heap[g]? = w.heap[g]?) : w'.ownsRow B e s v n xs := by
  refine ⟨h.1, ?_⟩
  rcases h.2 with hn | ⟨g, cap, cur, rfl, hb, hgg, rest⟩
  · exact .inl hn
  · exact .inr ⟨g, cap, cur, rfl, hb, (hk g rfl).trans hgg, rest⟩

/-- Outside of its own blocks nothing turns; what it has is in what it had, or new. -/
structure Step (w w' : World) (S S' : Nat → Prop) : Prop where
  fr : Fr S w w'
  foot : ∀ k, S' k → S k ∨ w.heap.size ≤ k
theorem Step.trans {a b c : World} {S T U : Nat → Prop} (h : Step a b S T) (k : Step b c T U) : Step a c S U :=
  ⟨h.fr.trans k.fr h.foot, fun i hi => (k.foot i hi).elim (h.foot i) (fun h2 => .inr (Nat.le_trans h.fr.size h2))⟩
theorem Step.drewN {a b : World} {S T : Nat → Prop} (h : Step a b S T) (n : Nat) : Step a (b.drewN n) S T := ⟨h.fr.drewN n, h.foot⟩
theorem Step.drew {a b : World} {S T : Nat → Prop} (h : Step a b S T) : Step a b.drew S T := ⟨h.fr.drew, h.foot⟩
theorem Step.refl (w : World) (S : Nat → Prop) : Step w w S S := ⟨Fr.refl _ _, fun _ h => .inl h⟩
theorem Step.alloc {a b : World} {S T : Nat → Prop} (h : Step a b S T) (o : Obj) : Step a (b.alloc o) S T := ⟨h.fr.alloc o, h.foot⟩
theorem Step.keep {a b : World} {S T : Nat → Prop} (h : Step a b S T) {k : Nat} {o : Obj} (hk : a.heap[k]? = some o) (hs : ¬ S k) : b.heap[k]? = some o := h.fr.keep hk hs

/-- A cell in a block that did not turn. -/
theorem Fr.cell_ {S : Nat → Prop} {w w' : World} (h : Fr S w w') {b o : Nat} {v : Value} (hc : w.cell? ⟨b, o, none⟩ = some v) (hs : ¬ S b) : w'.cell? ⟨b, o, none⟩ = some v :=
  (World.cell?_of_block (w := w) (a := ⟨b, o, none⟩) (h.block b (block_lt_of_cell (a := ⟨b, o, none⟩) hc) hs)).trans hc
theorem Fr.frozen_ {S : Nat → Prop} {w w' : World} (h : Fr S w w') {b o o2 : Nat} {v : Value} {x : Bool} (hc : w.cell? ⟨b, o, none⟩ = some v) (hf : w.frozen? ⟨b, o2, none⟩ = x) (hs : ¬ S b) : w'.frozen? ⟨b, o2, none⟩ = x :=
  (World.frozen?_of_block (w := w) (a := ⟨b, o2, none⟩) (h.block b (block_lt_of_cell (a := ⟨b, o, none⟩) hc) hs)).trans hf
theorem Fr.both {S : Nat → Prop} {w w' : World} (h : Fr S w w') (q : Addr) (u : Value) (hq : ¬ S q.block) : Fr S (w.setCell q u) (w'.setCell q u) := by
  refine ⟨h.os, h.tape, h.output, by simpa [World.setCell] using h.size, fun k hk hs => ?_⟩
  have hk' : k < w.heap.size := by simpa [World.setCell] using hk
  have e := h.block k hk' hs
  by_cases hkq : k = q.block
  · subst hkq
    simp [World.setCell, Array.getElem?_modify, e]
  · rw [Below.heap_setCell _ _ _ _ hkq, Below.heap_setCell _ _ _ _ hkq, e]
theorem Step.both {S T : Nat → Prop} {w w' : World} (h : Step w w' S T) (q : Addr) (u : Value) (hq : ¬ S q.block) : Step (w.setCell q u) (w'.setCell q u) S T :=
  ⟨h.fr.both q u hq, fun k hk => by simpa [World.setCell] using h.foot k hk⟩

/-- Bytes as cells. -/
def bytesV (bs : List UInt8) : List Value := bs.map fun b => .int .u8 (b.toNat : Int)
theorem bytesV_length (bs : List UInt8) : (bytesV bs).length = bs.length := by simp [bytesV]
theorem bytesV_append (a b : List UInt8) : bytesV (a ++ b) = bytesV a ++ bytesV b := by simp [bytesV]
theorem own_byte {w : World} {B g cap n : Nat} {bs : List UInt8} (h : w.ownsRow B 5 1 (.slice (some ⟨g, 0, none⟩) n cap) bs.length (bytesV bs)) (q : Nat) (hq : q < bs.length) :
    w.cell? ⟨g, q, none⟩ = some (.int .u8 ((bs.getD q 0).toNat : Int)) := by
  have hc := h.cells (g := g) rfl q (.int .u8 ((bs.getD q 0).toNat : Int)) (by simp [bytesV, List.getD, List.getElem?_eq_getElem hq])
  have hplain : (⟨g, 0, none⟩ : Addr).add q = ⟨g, 0 + q, none⟩ := by unfold Addr.add; split <;> simp_all
  rw [hplain, Nat.zero_add] at hc
  exact hc

end Go.My
