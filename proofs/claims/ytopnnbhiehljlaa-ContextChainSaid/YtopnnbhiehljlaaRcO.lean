/- Layer 3 (rc), the plain law: steps one behind another. -/
import Derived.Test.YtopnnbhiehljlaaRcD
namespace Go.Rc
set_option linter.unusedVariables false

inductive Op where
  | bit (p b : Nat)
  | direct (b : Nat)
  | part (start size total : Nat)
deriving DecidableEq
def Op.Fine : Op → Prop
  | .bit p b => PrOk p ∧ b < 2
  | .direct b => b < 2
  | .part start size total => PtOk start size total
def A.step (a : A) : Op → A
  | .bit p b => a.bit p b
  | .direct b => a.direct b
  | .part s z t => a.part s z t
def E.step (e : E) : Op → E
  | .bit p b => e.bit p b
  | .direct b => e.direct b
  | .part s z t => e.part s z t
theorem A.Good.step {a : A} (h : a.Good) {o : Op} (ho : o.Fine) : (a.step o).Good := by
  cases o with
  | bit p b => exact h.bit ho.1 b
  | direct b => exact h.direct b
  | part s z t => exact h.part ho
theorem Rel.step {e : E} {a : A} (h : Rel e a) (hg : a.Good) {o : Op} (ho : o.Fine) : Rel (e.step o) (a.step o) := by
  cases o with
  | bit p b => exact h.bit hg ho.1 b
  | direct b => exact h.direct hg b
  | part s z t => exact h.part hg ho
theorem In.step_back {B : List UInt8} {a : A} {o : Op} (h : In B (a.step o)) (hg : a.Good) (ho : o.Fine) : In B a := by
  cases o with
  | bit p b => exact In.bit_back h hg ho.1
  | direct b => exact In.direct_back h
  | part s z t => exact In.part_back h hg ho
def A.run (a : A) (l : List Op) : A := l.foldl A.step a
def E.run (e : E) (l : List Op) : E := l.foldl E.step e
theorem A.run_append (a : A) (l m : List Op) : a.run (l ++ m) = (a.run l).run m := List.foldl_append
theorem E.run_append (e : E) (l m : List Op) : e.run (l ++ m) = (e.run l).run m := List.foldl_append
theorem E.run_cons (e : E) (o : Op) (l : List Op) : e.run (o :: l) = (e.step o).run l := rfl
theorem E.run_nil (e : E) : e.run [] = e := rfl
theorem A.run_cons (a : A) (o : Op) (l : List Op) : a.run (o :: l) = (a.step o).run l := rfl
theorem A.run_nil (a : A) : a.run [] = a := rfl
def AllFine (l : List Op) : Prop := ∀ o ∈ l, o.Fine
theorem AllFine.append {l m : List Op} (h : AllFine l) (k : AllFine m) : AllFine (l ++ m) := fun o ho => (List.mem_append.1 ho).elim (h o) (k o)
theorem AllFine.left {l m : List Op} (h : AllFine (l ++ m)) : AllFine l := fun o ho => h o (List.mem_append_left _ ho)
theorem AllFine.right {l m : List Op} (h : AllFine (l ++ m)) : AllFine m := fun o ho => h o (List.mem_append_right _ ho)
theorem AllFine.nil : AllFine [] := fun o ho => by cases ho
theorem AllFine.cons {o : Op} {l : List Op} (h : o.Fine) (k : AllFine l) : AllFine (o :: l) := fun x hx => by
  rcases List.mem_cons.1 hx with rfl | hx
  · exact h
  · exact k x hx
theorem A.Good.run {a : A} {l : List Op} (h : a.Good) (hl : AllFine l) : (a.run l).Good := by
  induction l generalizing a with
  | nil => exact h
  | cons o l ih => exact ih (h.step (hl o (List.mem_cons_self ..))) (fun x hx => hl x (List.mem_cons_of_mem _ hx))
theorem Rel.run {e : E} {a : A} {l : List Op} (h : Rel e a) (hg : a.Good) (hl : AllFine l) : Rel (e.run l) (a.run l) := by
  induction l generalizing e a with
  | nil => exact h
  | cons o l ih => exact ih (h.step hg (hl o (List.mem_cons_self ..))) (hg.step (hl o (List.mem_cons_self ..))) (fun x hx => hl x (List.mem_cons_of_mem _ hx))
theorem In.run_back {B : List UInt8} {a : A} {l : List Op} (h : In B (a.run l)) (hg : a.Good) (hl : AllFine l) : In B a := by
  induction l generalizing a with
  | nil => exact h
  | cons o l ih =>
    exact In.step_back (ih h (hg.step (hl o (List.mem_cons_self ..))) (fun x hx => hl x (List.mem_cons_of_mem _ hx))) hg (hl o (List.mem_cons_self ..))

def A.start : A := ⟨0, 0, 4294967295⟩
/-- The bytes of steps. -/
def bytes (l : List Op) : List UInt8 := (E.start.run l).ended
structure Bytes (B : List UInt8) (l : List Op) : Prop where
  v : val B = (A.start.run l).lo
  l : B.length = (A.start.run l).k + 5
theorem bytes_is {l : List Op} (hl : AllFine l) : Bytes (bytes l) l := by
  obtain ⟨h1, h2⟩ := (Rel.run (a := A.start) Rel.start A.Good.start hl).ended
  exact ⟨h1, h2⟩
theorem Bytes.in_ {B : List UInt8} {l m : List Op} (h : Bytes B (l ++ m)) (hf : AllFine (l ++ m)) : In B (A.start.run l) := by
  have hg := A.Good.start.run hf
  have := In.ended h.v h.l hg
  rw [A.run_append] at this
  exact this.run_back (A.Good.start.run hf.left) hf.right
theorem Bytes.start {B : List UInt8} {l : List Op} (h : Bytes B l) (hf : AllFine l) (more : List UInt8) : RelD B more (D.read (B ++ more)) A.start :=
  RelD.start (h.in_ (l := []) hf)
theorem Bytes.done {B : List UInt8} {l : List Op} (h : Bytes B l) {more : List UInt8} {d : D} (hd : RelD B more d (A.start.run l)) : d.done = more.isEmpty ∧ d.bad = false :=
  hd.done h.v h.l

/-- A number's bits, the highest first. -/
def bitsOf (v : Nat) : Nat → List Op
  | 0 => []
  | n + 1 => .direct (v / 2 ^ n % 2) :: bitsOf v n
theorem bitsOf_fine (v n : Nat) : AllFine (bitsOf v n) := by
  induction n with
  | zero => exact AllFine.nil
  | succ n ih => exact AllFine.cons (Nat.mod_lt _ (by decide)) ih
/-- Direct bits. -/
def D.directs : Nat → D → Nat → Nat × D
  | 0, d, v => (v, d)
  | n + 1, d, v => D.directs n d.direct.2 (v * 2 + d.direct.1)
theorem RelD.directs {B more : List UInt8} {d : D} {a : A} (h : RelD B more d a) (v n x : Nat) (hg : a.Good) (hi : In B (a.run (bitsOf v n))) :
    (d.directs n x).1 = x * 2 ^ n + v % 2 ^ n ∧ RelD B more (d.directs n x).2 (a.run (bitsOf v n)) := by
  induction n generalizing d a x with
  | zero => exact ⟨by simp [D.directs, Nat.mod_one], h⟩
  | succ n ih =>
    have hb : v / 2 ^ n % 2 < 2 := Nat.mod_lt _ (by decide)
    have hi2 : In B (a.direct (v / 2 ^ n % 2)) := In.run_back (l := bitsOf v n) hi (hg.direct _) (bitsOf_fine v n)
    obtain ⟨h1, h2⟩ := h.direct hb hi2
    obtain ⟨h3, h4⟩ := ih h2 (x * 2 + d.direct.1) (hg.direct _) hi
    unfold D.directs
    refine ⟨?_, h4⟩
    rw [h3, h1, Nat.pow_succ, Nat.mod_mul]
    rw [Nat.add_mul, Nat.mul_assoc, Nat.mul_comm 2, Nat.mul_comm (v / 2 ^ n % 2), Nat.add_assoc, Nat.add_comm (2 ^ n * _)]
end Go.Rc
