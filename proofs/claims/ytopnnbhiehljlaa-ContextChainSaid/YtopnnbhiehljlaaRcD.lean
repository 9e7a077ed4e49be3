/- Layer 3 (rc), the plain law: what was encoded is decoded again. -/
import Derived.Test.YtopnnbhiehljlaaRcM
namespace Go.Rc
set_option linter.unusedVariables false

/-- What a decoder holds. -/
structure D where
  rest : List UInt8
  code : Nat
  size : Nat
  part : Nat
  bad : Bool
deriving DecidableEq

def D.next (d : D) : Nat × D := match d.rest with
  | [] => (0, { d with bad := true })
  | b :: r => (b.toNat, { d with rest := r })
def D.pull (d : D) : D := { d.next.2 with code := (d.code * 256 + d.next.1) % 4294967296 }
def D.pullN : Nat → D → D
  | 0, d => d
  | n + 1, d => D.pullN n d.pull
/-- A decoder of bytes. -/
def D.read (s : List UInt8) : D :=
  let z := D.next ⟨s, 0, 4294967295, 0, false⟩
  let d := z.2.pullN 4
  { d with bad := d.bad || z.1 != 0 }
def D.widenN : Nat → D → D
  | 0, d => d
  | n + 1, d => if d.size < 16777216 then D.widenN n ({ d with size := d.size * 256 } : D).pull else d
def D.widen (d : D) : D := d.widenN 3
def D.bit (d : D) (p : Nat) : Nat × D :=
  if d.code < bound d.size p then (0, ({ d with size := bound d.size p } : D).widen)
  else (1, ({ d with code := d.code - bound d.size p, size := d.size - bound d.size p } : D).widen)
def D.direct (d : D) : Nat × D :=
  if d.code < d.size / 2 then (0, ({ d with size := d.size / 2 } : D).widen)
  else (1, ({ d with code := d.code - d.size / 2, size := d.size / 2 } : D).widen)
def D.where_ (d : D) (total : Nat) : Nat × D := (min (d.code / (d.size / total)) (total - 1), { d with part := d.size / total })
def D.take (d : D) (start size : Nat) : D := ({ d with code := (d.code + 4294967296 - d.part * start % 4294967296) % 4294967296, size := d.part * size } : D).widen
def D.done (d : D) : Bool := d.rest.isEmpty && d.code == 0

/-- So many of the bytes as a number. -/
def at_ (B : List UInt8) (k : Nat) : Nat := val (B.take (k + 5))

theorem at_succ {B : List UInt8} {k : Nat} (h : k + 6 ≤ B.length) : ∃ b : UInt8, B[k + 5]? = some b ∧ at_ B (k + 1) = at_ B k * 256 + b.toNat ∧ B.drop (k + 5) = b :: B.drop (k + 6) := by
  have hlt : k + 5 < B.length := by omega
  refine ⟨B[k + 5], List.getElem?_eq_getElem hlt, ?_, List.drop_eq_getElem_cons hlt⟩
  unfold at_
  rw [show k + 1 + 5 = (k + 5) + 1 by omega, List.take_succ_eq_append_getElem hlt, val_snoc]

/-- The bytes tell a number inside of a range. -/
structure In (B : List UInt8) (a : A) : Prop where
  len : a.k + 5 ≤ B.length
  lo : a.lo ≤ at_ B a.k
  hi : at_ B a.k < a.lo + a.r

theorem In.of_sub {B : List UInt8} {a : A} {d R : Nat} (h : In B (a.sub d R)) (h1 : d + R ≤ a.r) : In B a :=
  ⟨h.len, by have := h.lo; simp only [A.sub] at this; omega, by have := h.hi; simp only [A.sub] at this; omega⟩
theorem In.of_widenN {B : List UInt8} {a : A} {n : Nat} (h : In B (a.widenN n)) : In B a := by
  induction n generalizing a with
  | zero => exact h
  | succ n ih =>
    unfold A.widenN at h
    split at h
    · have h2 := ih h
      have l := h2.len
      dsimp only at l
      obtain ⟨b, hb, he, _⟩ := at_succ (B := B) (k := a.k) (by omega)
      have h3 := h2.lo
      have h4 := h2.hi
      dsimp only at h3 h4
      rw [he] at h3 h4
      have hb := b.toNat_lt
      exact ⟨by omega, by omega, by omega⟩
    · exact h
theorem In.of_next {B : List UInt8} {a : A} {d R : Nat} (h : In B (a.sub d R).widen) : In B (a.sub d R) := In.of_widenN h

/-- A decoder stands at a range. -/
structure RelD (B more : List UInt8) (d : D) (a : A) : Prop where
  rest : d.rest = B.drop (a.k + 5) ++ more
  code : d.code + a.lo = at_ B a.k
  size : d.size = a.r
  bad : d.bad = false

theorem RelD.code_lt {B more : List UInt8} {d : D} {a : A} (h : RelD B more d a) (hi : In B a) : d.code < a.r := by
  have := h.code; have := hi.hi; omega
theorem RelD.sub {B more : List UInt8} {d : D} {a : A} (h : RelD B more d a) {x R : Nat} (hi : In B (a.sub x R)) :
    x ≤ d.code ∧ d.code < x + R ∧ ∀ p, RelD B more { d with code := d.code - x, size := R, part := p } (a.sub x R) := by
  have h1 := h.code
  have h2 := hi.lo
  have h3 := hi.hi
  simp only [A.sub] at h2 h3
  exact ⟨by omega, by omega, fun p => ⟨h.rest, by simp only [A.sub]; omega, rfl, h.bad⟩⟩
theorem RelD.widenN {B more : List UInt8} {d : D} {a : A} {n : Nat} (h : RelD B more d a) (hi : In B (a.widenN n)) : RelD B more (d.widenN n) (a.widenN n) := by
  induction n generalizing d a with
  | zero => exact h
  | succ n ih =>
    unfold D.widenN A.widenN
    unfold A.widenN at hi
    rw [h.size]
    by_cases hs : a.r < 16777216
    · rw [if_pos hs] at hi
      rw [if_pos hs, if_pos hs]
      refine ih ?_ hi
      have hin := In.of_widenN hi
      have hl := hin.len
      dsimp only at hl
      obtain ⟨b, hb, he, hd⟩ := at_succ (B := B) (k := a.k) (by omega)
      have hc := h.code
      have hh := hin.hi
      dsimp only at hh
      rw [he] at hh
      have hb := b.toNat_lt
      have hn : ({ d with size := a.r * 256 } : D).next = (b.toNat, { d with size := a.r * 256, rest := B.drop (a.k + 6) ++ more }) := by
        unfold D.next
        rw [show ({ d with size := a.r * 256 } : D).rest = d.rest from rfl, h.rest, hd]
        rfl
      unfold D.pull
      rw [hn]
      refine ⟨rfl, ?_, rfl, h.bad⟩
      dsimp only
      rw [he]
      omega
    · rw [if_neg hs] at hi
      rw [if_neg hs, if_neg hs]
      exact h

theorem RelD.next {B more : List UInt8} {d : D} {a : A} (h : RelD B more d a) {x R p : Nat} (hi : In B (a.sub x R).widen) :
    RelD B more ({ d with code := d.code - x, size := R, part := p } : D).widen (a.sub x R).widen := ((h.sub hi.of_next).2.2 p).widenN hi

theorem bit_sub (a : A) (p b : Nat) : ∃ x R, a.bit p b = (a.sub x R).widen ∧ (b = 0 → x = 0 ∧ R = bound a.r p) ∧ (b ≠ 0 → x = bound a.r p ∧ R = a.r - bound a.r p) := by
  unfold A.bit
  by_cases hb : b = 0
  · exact ⟨0, bound a.r p, by rw [if_pos hb], fun _ => ⟨rfl, rfl⟩, fun h => absurd hb h⟩
  · exact ⟨_, _, by rw [if_neg hb], fun h => absurd h hb, fun _ => ⟨rfl, rfl⟩⟩
theorem In.bit_back {B : List UInt8} {a : A} {p b : Nat} (h : In B (a.bit p b)) (hg : a.Good) (hp : PrOk p) : In B a := by
  have := bound_in hg.lo hp
  obtain ⟨x, R, he, h0, h1⟩ := bit_sub a p b
  rw [he] at h
  refine h.of_next.of_sub ?_
  by_cases hb : b = 0
  · have := h0 hb; omega
  · have := h1 hb; omega
theorem RelD.bit {B more : List UInt8} {d : D} {a : A} {p b : Nat} (h : RelD B more d a) (hb : b < 2) (hi : In B (a.bit p b)) : (d.bit p).1 = b ∧ RelD B more (d.bit p).2 (a.bit p b) := by
  obtain ⟨x, R, he, h0, h1⟩ := bit_sub a p b
  rw [he] at hi ⊢
  have hs := h.sub hi.of_next
  have hn := h.next (p := d.part) hi
  unfold D.bit
  rw [h.size]
  by_cases hz : b = 0
  · obtain ⟨rfl, rfl⟩ := h0 hz
    rw [if_pos (by omega)]
    exact ⟨hz.symm, hn⟩
  · obtain ⟨rfl, rfl⟩ := h1 hz
    rw [if_neg (by omega)]
    exact ⟨by show 1 = b; omega, hn⟩

theorem direct_sub (a : A) (b : Nat) : ∃ x R, a.direct b = (a.sub x R).widen ∧ (b = 0 → x = 0 ∧ R = a.r / 2) ∧ (b ≠ 0 → x = a.r / 2 ∧ R = a.r / 2) := by
  unfold A.direct
  by_cases hb : b = 0
  · exact ⟨0, a.r / 2, by rw [if_pos hb], fun _ => ⟨rfl, rfl⟩, fun h => absurd hb h⟩
  · exact ⟨_, _, by rw [if_neg hb], fun h => absurd h hb, fun _ => ⟨rfl, rfl⟩⟩
theorem In.direct_back {B : List UInt8} {a : A} {b : Nat} (h : In B (a.direct b)) : In B a := by
  obtain ⟨x, R, he, h0, h1⟩ := direct_sub a b
  rw [he] at h
  refine h.of_next.of_sub ?_
  by_cases hb : b = 0
  · have := h0 hb; omega
  · have := h1 hb; omega
theorem RelD.direct {B more : List UInt8} {d : D} {a : A} {b : Nat} (h : RelD B more d a) (hb : b < 2) (hi : In B (a.direct b)) : d.direct.1 = b ∧ RelD B more d.direct.2 (a.direct b) := by
  obtain ⟨x, R, he, h0, h1⟩ := direct_sub a b
  rw [he] at hi ⊢
  have hs := h.sub hi.of_next
  have hn := h.next (p := d.part) hi
  unfold D.direct
  rw [h.size]
  by_cases hz : b = 0
  · obtain ⟨rfl, rfl⟩ := h0 hz
    rw [if_pos (by omega)]
    exact ⟨hz.symm, hn⟩
  · obtain ⟨rfl, rfl⟩ := h1 hz
    rw [if_neg (by omega)]
    exact ⟨by show 1 = b; omega, hn⟩

theorem In.part_back {B : List UInt8} {a : A} {start size total : Nat} (h : In B (a.part start size total)) (hg : a.Good) (hp : PtOk start size total) : In B a :=
  (In.of_next h).of_sub (part_in hg.lo hp).1
theorem RelD.part {B more : List UInt8} {d : D} {a : A} {start size total : Nat} (h : RelD B more d a) (hg : a.Good) (hp : PtOk start size total) (hi : In B (a.part start size total)) :
    start ≤ (d.where_ total).1 ∧ (d.where_ total).1 < start + size ∧ RelD B more ((d.where_ total).2.take start size) (a.part start size total) := by
  have hpi := part_in hg.lo hp
  have hs := h.sub (In.of_next hi)
  have hn := h.next (p := a.r / total) hi
  obtain ⟨one, in_, small⟩ := hp
  have hq : 0 < a.r / total := hpi.2.2
  unfold D.where_
  dsimp only
  rw [h.size]
  have l1 : start ≤ d.code / (a.r / total) := (Nat.le_div_iff_mul_le hq).2 (by rw [Nat.mul_comm]; exact hs.1)
  have l2 : d.code / (a.r / total) < start + size := (Nat.div_lt_iff_lt_mul hq).2 (by rw [Nat.mul_comm, Nat.mul_add]; exact hs.2.1)
  refine ⟨by omega, by omega, ?_⟩
  have hc : (d.code + 4294967296 - a.r / total * start % 4294967296) % 4294967296 = d.code - a.r / total * start := by
    have := hs.1
    have := h.code_lt ((In.of_next hi).of_sub hpi.1)
    have := hg.hi
    omega
  unfold D.take
  dsimp only
  rw [hc]
  exact hn

/-- The bytes of an encoder's end. -/
theorem In.ended {a : A} {B : List UInt8} (hv : val B = a.lo) (hl : B.length = a.k + 5) (hg : a.Good) : In B a := by
  have e : at_ B a.k = a.lo := by unfold at_; rw [← hl, List.take_length, hv]
  exact ⟨by omega, by omega, by have := hg.lo; omega⟩
theorem RelD.done {B more : List UInt8} {d : D} {a : A} (hv : val B = a.lo) (hl : B.length = a.k + 5) (h : RelD B more d a) : d.done = more.isEmpty ∧ d.bad = false := by
  have e : at_ B a.k = a.lo := by unfold at_; rw [← hl, List.take_length, hv]
  have hc := h.code
  have hz : d.code = 0 := by omega
  refine ⟨?_, h.bad⟩
  unfold D.done
  rw [h.rest, hz, ← hl, List.drop_length]
  simp
theorem RelD.start {B more : List UInt8} (hi : In B ⟨0, 0, 4294967295⟩) : RelD B more (D.read (B ++ more)) ⟨0, 0, 4294967295⟩ := by
  have hl := hi.len
  have hh := hi.hi
  dsimp only at hl hh
  match B, hl with
  | b0 :: b1 :: b2 :: b3 :: b4 :: B, _ =>
    have ht : at_ (b0 :: b1 :: b2 :: b3 :: b4 :: B) 0 = (((b0.toNat * 256 + b1.toNat) * 256 + b2.toNat) * 256 + b3.toNat) * 256 + b4.toNat := by
      simp [at_, val]
    rw [ht] at hh
    have hz : b0.toNat = 0 := by omega
    have q1 := b1.toNat_lt
    have q2 := b2.toNat_lt
    have q3 := b3.toNat_lt
    have q4 := b4.toNat_lt
    have hr : D.read (b0 :: b1 :: b2 :: b3 :: b4 :: B ++ more) = ⟨B ++ more, (((0 + b1.toNat) % 4294967296 * 256 + b2.toNat) % 4294967296 * 256 + b3.toNat) % 4294967296 * 256 % 4294967296 + b4.toNat, 4294967295, 0, false⟩ := by
      simp only [D.read, D.next, D.pull, D.pullN, List.cons_append, hz]
      simp
      omega
    rw [hr]
    refine ⟨by simp, ?_, rfl, rfl⟩
    rw [ht, hz]
    dsimp only
    omega
end Go.Rc
