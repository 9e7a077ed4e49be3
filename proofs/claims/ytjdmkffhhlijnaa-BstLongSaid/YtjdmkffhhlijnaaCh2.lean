/- Layer 07 (chain): the finder's map, in words of a function. -/
import Derived.Test.YtjdmkffhhlijnaaCh1
import Derived.Maps.Own
import Derived.Maps.OwnSet
import Derived.Maps.Views
import Derived.Maps.Keyed
import Derived.WideKeyArr
import Derived.WideKeyPair
namespace Go.Proofs.Ytjdmkffhhlijnaa
set_option linter.unusedVariables false
open Go.RowKit Go.My Go.Maps Go.Ch Go.WideMaps

theorem arr3 : ArrKey Try.prog 52 5 3 := ⟨Try.underlying52, by kernel_rfl, by kernel_rfl, by kernel_rfl⟩
theorem klaw : Keyed Try.prog 52 := Keyed.of_law arr3.law
def vK (t : List UInt8) : Value := .agg #[.int .u8 ((t.getD 0 0).toNat : Int), .int .u8 ((t.getD 1 0).toNat : Int), .int .u8 ((t.getD 2 0).toNat : Int)]
def lK (t : List UInt8) : Lit := .string (keyBytes [.int .u8 ((t.getD 0 0).toNat : Int), .int .u8 ((t.getD 1 0).toNat : Int), .int .u8 ((t.getD 2 0).toNat : Int)])
theorem wfb (b : UInt8) : (Lit.int .u8 (b.toNat : Int)).wf = true := by
  have := b.toNat_lt
  simp [Lit.wf, IntKind.min, IntKind.max, IntKind.bits, IntKind.signed]
  omega
theorem keyOf_vK (t : List UInt8) : keyOf Try.prog 52 (vK t) = some (lK t) := by
  have hkt := arr3.keyType ⟨_, rfl⟩
  have he := Try.underlying5
  have w0 := wfb (t.getD 0 0)
  have w1 := wfb (t.getD 1 0)
  have w2 := wfb (t.getD 2 0)
  unfold vK lK
  generalize ((t.getD 0 0).toNat : Int) = a at *
  generalize ((t.getD 1 0).toNat : Int) = b at *
  generalize ((t.getD 2 0).toNat : Int) = c at *
  obtain ⟨m, hm⟩ : ∃ m, Try.prog.types.size = m + 1 := ⟨_, rfl⟩
  unfold keyOf
  simp only [arr3.hu]
  rw [if_pos (by simp [hkt, Value.formed, arr3.hu, arr3.size]), hm]
  unfold Program.keyLits
  simp only [arr3.hu, Value.cells]
  rw [if_pos (by rw [arr3.size]; rfl), show List.range 3 = [0, 1, 2] from rfl, List.mapM_cons, List.mapM_cons, List.mapM_cons, List.mapM_nil]
  simp [arr3.one, Program.keyLits, he, w0, w1, w2]
theorem vK_inj {t u : List UInt8} (h : vK t = vK u) : t.getD 0 0 = u.getD 0 0 ∧ t.getD 1 0 = u.getD 1 0 ∧ t.getD 2 0 = u.getD 2 0 := by
  unfold vK at h
  injection h with h
  have h2 := congrArg Array.toList h
  generalize t.getD 0 0 = a at *
  generalize t.getD 1 0 = b at *
  generalize t.getD 2 0 = c at *
  generalize u.getD 0 0 = a' at *
  generalize u.getD 1 0 = b' at *
  generalize u.getD 2 0 = c' at *
  simp at h2
  obtain ⟨h0, h1, h3⟩ := h2
  exact ⟨UInt8.toNat_inj.1 (by omega), UInt8.toNat_inj.1 (by omega), UInt8.toNat_inj.1 (by omega)⟩
theorem lK_inj {i j : Nat} {l : List UInt8} (h : lK (tri l i) = lK (tri l j)) : tri l i = tri l j := by
  have h1 := keyOf_vK (tri l i)
  have h2 := keyOf_vK (tri l j)
  rw [h] at h1
  obtain ⟨e0, e1, e2⟩ := vK_inj (klaw.inj h1 h2)
  simp only [tri, List.getD] at *
  simp at e0 e1 e2
  rw [e0, e1, e2]
theorem isKeyK (t : List UInt8) : WideAt.IsKeyLit (lK t) := klaw.key (keyOf_vK t)
theorem zero3 (w : World) : (zeroValue 3).run Try.prog w = .ok (.int .i64 0) w := by kernel_rfl
/-- The places at which three bytes stood last: those of places below i. -/
def MapT (w : World) (b : Nat) (l : List UInt8) (i : Nat) : Prop :=
  ∃ (D : DataW Unit) (n : Nat), n ≤ i ∧ w.ownsMap Try.prog 52 (plainElem Try.prog 3) b n D ∧
    ∀ j, has D (lK (tri l j)) = (lastN l (tri l j) i).isSome ∧ ∀ p, lastN l (tri l j) i = some p → D.atKey (lK (tri l j)) (.lit (.int .i64 0)) = .lit (.int .i64 (p : Nat))
theorem MapT.made (w : World) (l : List UInt8) : MapT (w.alloc (.map #[] 0)) w.heap.size l 0 := ⟨.map [], 0, Nat.le_refl _, World.ownsMap_made _ _ _ _, fun j => ⟨rfl, fun p h => by cases h⟩⟩
theorem MapT.same {w w' : World} {b i : Nat} {l : List UInt8} (h : MapT w b l i) (hb : w'.heap[b]? = w.heap[b]?) : MapT w' b l i := by
  obtain ⟨D, n, hn, ⟨es, clock, he, F, hs, hD⟩, hg⟩ := h
  exact ⟨D, n, hn, ⟨es, clock, hb.trans he, F, hs, hD⟩, hg⟩
theorem MapT.look {w : World} {b i : Nat} {l : List UInt8} (h : MapT w b l i) (j : Nat) :
    ∃ v : Value, (Instr.lookup 42 (.map (some b)) (vK (tri l j)) true).run Try.prog w = .ok (.tuple #[v, .bool (lastN l (tri l j) i).isSome]) w ∧ ∀ p, lastN l (tri l j) i = some p → v = .int .i64 (p : Nat) := by
  obtain ⟨D, n, hn, ho, hg⟩ := h
  obtain ⟨v, ps, hrun, hv⟩ := ho.look_ok klaw Try.underlying42 (zero3 w) (plainElem_int Try.underlying3 (by decide)) (keyOf_vK (tri l j))
  rw [(hg j).1] at hrun
  refine ⟨v, hrun, fun p hp => ?_⟩
  rw [(hg j).2 p hp] at hv
  obtain ⟨c, rfl, hc, _⟩ := plainElem_int_inv Try.underlying3 hv
  simp only [Prod.mk.injEq] at hc
  injection hc.1 with h1
  injection h1 with _ h2
  rw [h2]
theorem MapT.upd {w : World} {b i : Nat} {l : List UInt8} (h : MapT w b l i) (hi : i + 3 ≤ l.length) (hl : l.length ≤ 1000) :
    ∃ w', (Instr.mapUpdate 42 (.map (some b)) (vK (tri l i)) (.int .i64 (i : Int))).run Try.prog w = .ok () w' ∧ MapT w' b l (i + 1) ∧ w.grownBy w' (some b) := by
  obtain ⟨D, n, hn, ho, hg⟩ := h
  have hwi : (Lit.int .i64 (i : Int)).wf = true := by
    simp [Lit.wf, IntKind.min, IntKind.max, IntKind.bits, IntKind.signed]
    omega
  obtain ⟨w', hrun, h1, h2⟩ := ho.update klaw Try.underlying42 (by unfold maxLen; omega) (keyOf_vK (tri l i)) (plainElem_int Try.underlying3 hwi)
  refine ⟨w', hrun, ⟨_, n + 1, by omega, h1, fun j => ?_⟩, h2⟩
  by_cases e : tri l i = tri l j
  · have el : lastN l (tri l j) (i + 1) = some i := by simp only [lastN]; rw [if_pos ⟨hi, e⟩]
    rw [el, ← e]
    exact ⟨has_put_same ho.isMap (isKeyK _) _, fun p hp => by
      injection hp with hp
      subst hp
      exact atKey_put_same ho.isMap (isKeyK _) _ _⟩
  · have el : lastN l (tri l j) (i + 1) = lastN l (tri l j) i := by simp only [lastN]; rw [if_neg (fun h => e h.2)]
    have hne : lK (tri l j) ≠ lK (tri l i) := fun h => e (lK_inj h).symm
    rw [el, has_put_other hne, atKey_put_other hne]
    exact hg j
theorem MapT.skip {w : World} {b i : Nat} {l : List UInt8} (h : MapT w b l i) (hi : ¬ i + 3 ≤ l.length) : MapT w b l (i + 1) := by
  obtain ⟨D, n, hn, ho, hg⟩ := h
  refine ⟨D, n, by omega, ho, fun j => ?_⟩
  have el : lastN l (tri l j) (i + 1) = lastN l (tri l j) i := by simp only [lastN]; rw [if_neg (fun h => hi h.1)]
  rw [el]
  exact hg j
end Go.Proofs.Ytjdmkffhhlijnaa
