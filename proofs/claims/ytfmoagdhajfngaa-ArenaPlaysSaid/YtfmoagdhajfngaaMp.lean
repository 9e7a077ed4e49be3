/- Layer 17 (arena): the law's two maps. -/
import Derived.Test.YtfmoagdhajfngaaProg
import Derived.Test.YtfmoagdhajfngaaAu
import Derived.Maps.Own
import Derived.Maps.OwnSet
import Derived.Maps.Views
import Derived.Maps.Keyed
set_option linter.unusedVariables false
set_option linter.unusedSimpArgs false
namespace Go.Proofs.Ytfmoagdhajfngaa
open Go.RowKit Go.My Go.Maps

theorem mlaw3 : Keyed Try.prog 3 := int_keyed Try.underlying3
theorem mzero3 (w : World) : (zeroValue 3).run Try.prog w = .ok (.int .i64 0) w := by kernel_rfl
theorem mzero4 (w : World) : (zeroValue 4).run Try.prog w = .ok (.bool false) w := by kernel_rfl

/-- map[int]bool, in words of a function. -/
def MapB (w : World) (b n : Nat) (g : Int → Bool) : Prop :=
  ∃ D : DataW Unit, w.ownsMap Try.prog 3 (plainElem Try.prog 4) b n D ∧ ∀ i, D.atKey (.int .i64 i) (.lit (.bool false)) = .lit (.bool (g i))
/-- map[int]int. -/
def MapI (w : World) (b n : Nat) (g : Int → Int) : Prop :=
  ∃ D : DataW Unit, w.ownsMap Try.prog 3 (plainElem Try.prog 3) b n D ∧ ∀ i, D.atKey (.int .i64 i) (.lit (.int .i64 0)) = .lit (.int .i64 (g i))

theorem MapB.made (w : World) : MapB (w.alloc (.map #[] 0)) w.heap.size 0 (fun _ => false) := ⟨.map [], World.ownsMap_made _ _ _ _, fun _ => rfl⟩
theorem MapI.made (w : World) : MapI (w.alloc (.map #[] 0)) w.heap.size 0 (fun _ => 0) := ⟨.map [], World.ownsMap_made _ _ _ _, fun _ => rfl⟩

theorem MapB.same {w w' : World} {b n : Nat} {g : Int → Bool} (h : MapB w b n g) (hb : w'.heap[b]? = w.heap[b]?) : MapB w' b n g := by
  obtain ⟨D, ⟨es, clock, he, F, hs, hD⟩, hg⟩ := h
  exact ⟨D, ⟨es, clock, hb.trans he, F, hs, hD⟩, hg⟩
theorem MapI.same {w w' : World} {b n : Nat} {g : Int → Int} (h : MapI w b n g) (hb : w'.heap[b]? = w.heap[b]?) : MapI w' b n g := by
  obtain ⟨D, ⟨es, clock, he, F, hs, hD⟩, hg⟩ := h
  exact ⟨D, ⟨es, clock, hb.trans he, F, hs, hD⟩, hg⟩

theorem MapB.look {w : World} {b n : Nat} {g : Int → Bool} (h : MapB w b n g) {i : Int} (hi : (Lit.int .i64 i).wf = true) : (Instr.lookup 55 (.map (some b)) (.int .i64 i) false).run Try.prog w = .ok (.bool (g i)) w := by
  obtain ⟨D, ho, hg⟩ := h
  obtain ⟨v, ps, hrun, hv⟩ := ho.lookup mlaw3 Try.underlying55 (mzero4 w) (plainElem_bool Try.underlying4 false) (keyOf_int_mk Try.underlying3 hi)
  rw [hg i] at hv
  unfold plainElem at hv
  rw [Try.underlying4] at hv
  cases v <;> simp at hv
  rw [hrun, hv.1]
theorem MapI.look {w : World} {b n : Nat} {g : Int → Int} (h : MapI w b n g) {i : Int} (hi : (Lit.int .i64 i).wf = true) : (Instr.lookup 56 (.map (some b)) (.int .i64 i) false).run Try.prog w = .ok (.int .i64 (g i)) w := by
  obtain ⟨D, ho, hg⟩ := h
  obtain ⟨c, hrun, hat, _⟩ := ho.lookup_int mlaw3 Try.underlying56 Try.underlying3 (mzero3 w) (keyOf_int_mk Try.underlying3 hi)
  rw [hg i] at hat
  injection hat with hat
  injection hat with _ hat
  rw [hrun, hat]

/-- What the map reads as, one key turned. -/
theorem MapB.upd {w : World} {b n : Nat} {g : Int → Bool} (h : MapB w b n g) (hn : n < maxLen) {i : Int} (hi : (Lit.int .i64 i).wf = true) (x : Bool) :
    ∃ w', (Instr.mapUpdate 55 (.map (some b)) (.int .i64 i) (.bool x)).run Try.prog w = .ok () w' ∧ MapB w' b (n + 1) (fun j => if j = i then x else g j) ∧ w.grownBy w' (some b) := by
  obtain ⟨D, ho, hg⟩ := h
  obtain ⟨w', hrun, h1, h2⟩ := ho.update mlaw3 Try.underlying55 hn (keyOf_int_mk Try.underlying3 hi) (plainElem_bool Try.underlying4 x)
  refine ⟨w', hrun, ⟨_, h1, fun j => ?_⟩, h2⟩
  by_cases hj : j = i
  · subst hj
    rw [atKey_put_same ho.isMap (by trivial)]
    simp
  · rw [atKey_put_other (by simpa using hj), hg]
    simp [hj]
theorem MapI.upd {w : World} {b n : Nat} {g : Int → Int} (h : MapI w b n g) (hn : n < maxLen) {i x : Int} (hi : (Lit.int .i64 i).wf = true) (hx : (Lit.int .i64 x).wf = true) :
    ∃ w', (Instr.mapUpdate 56 (.map (some b)) (.int .i64 i) (.int .i64 x)).run Try.prog w = .ok () w' ∧ MapI w' b (n + 1) (fun j => if j = i then x else g j) ∧ w.grownBy w' (some b) := by
  obtain ⟨D, ho, hg⟩ := h
  obtain ⟨w', hrun, h1, h2⟩ := ho.update mlaw3 Try.underlying56 hn (keyOf_int_mk Try.underlying3 hi) (plainElem_int Try.underlying3 hx)
  refine ⟨w', hrun, ⟨_, h1, fun j => ?_⟩, h2⟩
  by_cases hj : j = i
  · subst hj
    rw [atKey_put_same ho.isMap (by trivial)]
    simp
  · rw [atKey_put_other (by simpa using hj), hg]
    simp [hj]
end Go.Proofs.Ytfmoagdhajfngaa
