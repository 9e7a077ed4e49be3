/- Layer 3 (rc), the plain law: ranges as numbers. -/
namespace Go.Rc
set_option linter.unusedVariables false

/-- Bytes as a number, the highest first. -/
def val (l : List UInt8) : Nat := l.foldl (fun a b => a * 256 + b.toNat) 0

theorem val_fold (l : List UInt8) (a : Nat) : l.foldl (fun a b => a * 256 + b.toNat) a = a * 256 ^ l.length + val l := by
  induction l generalizing a with
  | nil => simp [val]
  | cons b l ih =>
    simp only [List.foldl_cons, val, List.length_cons]
    rw [ih (a * 256 + b.toNat), ih (0 * 256 + b.toNat)]
    rw [Nat.pow_succ, Nat.zero_mul, Nat.zero_add, Nat.add_mul, Nat.mul_assoc, Nat.mul_comm 256, Nat.add_assoc]
theorem val_append (l m : List UInt8) : val (l ++ m) = val l * 256 ^ m.length + val m := by
  unfold val; rw [List.foldl_append, val_fold]; rfl
theorem val_cons (b : UInt8) (l : List UInt8) : val (b :: l) = b.toNat * 256 ^ l.length + val l := by
  have := val_append [b] l
  simpa [val] using this
theorem val_snoc (l : List UInt8) (b : UInt8) : val (l ++ [b]) = val l * 256 + b.toNat := by
  rw [val_append]; simp [val]
theorem val_nil : val [] = 0 := rfl
theorem val_lt (l : List UInt8) : val l < 256 ^ l.length := by
  induction l with
  | nil => simp [val]
  | cons b l ih =>
    rw [val_cons, List.length_cons, Nat.pow_succ]
    have hb := b.toNat_lt
    have : b.toNat * 256 ^ l.length ≤ 255 * 256 ^ l.length := Nat.mul_le_mul_right _ (by omega)
    omega
theorem val_inj (l m : List UInt8) (hl : l.length = m.length) (hv : val l = val m) : l = m := by
  induction l generalizing m with
  | nil =>
    cases m with
    | nil => rfl
    | cons c m => simp at hl
  | cons b l ih =>
    cases m with
    | nil => simp at hl
    | cons c m =>
      simp only [List.length_cons, Nat.add_right_cancel_iff] at hl
      rw [val_cons, val_cons, hl] at hv
      have h1 := val_lt l
      have h2 := val_lt m
      rw [hl] at h1
      have hp : 0 < 256 ^ m.length := Nat.pow_pos (by decide)
      have hb : b.toNat = c.toNat := by
        have e1 : (b.toNat * 256 ^ m.length + val l) / 256 ^ m.length = b.toNat := by
          rw [Nat.mul_comm, Nat.mul_add_div hp, Nat.div_eq_of_lt h1]; rfl
        have e2 : (c.toNat * 256 ^ m.length + val m) / 256 ^ m.length = c.toNat := by
          rw [Nat.mul_comm, Nat.mul_add_div hp, Nat.div_eq_of_lt h2]; rfl
        rw [hv] at e1
        exact e1.symm.trans e2
      have hb2 : b = c := UInt8.toNat_inj.1 hb
      subst hb2
      rw [ih m hl (by omega)]
theorem val_ff (p : Nat) : val (List.replicate p 255) + 1 = 256 ^ p := by
  induction p with
  | zero => rfl
  | succ p ih =>
    rw [List.replicate_succ, val_cons, List.length_replicate, Nat.pow_succ]
    have : (255 : UInt8).toNat = 255 := rfl
    rw [this]; omega
theorem val_zero (p : Nat) : val (List.replicate p 0) = 0 := by
  induction p with
  | zero => rfl
  | succ p ih => rw [List.replicate_succ, val_cons, ih]; simp

/-- What an encoder holds. -/
structure E where
  low : Nat
  size : Nat
  cache : Nat
  pend : Nat
  out : List UInt8
deriving DecidableEq

def E.start : E := ⟨0, 4294967295, 0, 0, []⟩

def E.flush (e : E) : List UInt8 :=
  e.out ++ UInt8.ofNat (e.cache + e.low / 4294967296) :: List.replicate e.pend (UInt8.ofNat (255 + e.low / 4294967296))

/-- The highest byte of low goes out. -/
def E.shift (e : E) : E :=
  if e.low / 4294967296 = 1 ∨ e.low % 4294967296 < 4278190080 then ⟨e.low % 16777216 * 256, e.size, e.low / 16777216 % 256, 0, e.flush⟩
  else ⟨e.low % 16777216 * 256, e.size, e.cache, e.pend + 1, e.out⟩

/-- A range as numbers: where it begins, how many bytes went ahead, how large it is. -/
structure A where
  lo : Nat
  k : Nat
  r : Nat
deriving DecidableEq

structure Ok (e : E) (Lo k R : Nat) : Prop where
  lo : Lo + 4294967296 = (val e.out * 256 ^ (e.pend + 1) + (e.cache + 1) * 256 ^ e.pend) * 4294967296 + e.low
  k : e.out.length + e.pend = k
  top : e.low + R ≤ 8589934592
  fix : (e.cache + 1) * 256 ^ e.pend * 4294967296 + e.low + R ≤ 256 ^ e.pend * 1099511627776 + 4294967296
  cb : e.cache < 256
  R1 : 1 ≤ R

theorem aux (A B x R : Nat) (h : A + x + R ≤ B + 4294967296) (h1: 4278190080 ≤ x) : A*256 + (x - 4278190080)*256 + R*256 ≤ B*256 + 4294967296 := by omega
theorem fixlem (M P x R : Nat) (h : M*4294967296 + x + R ≤ P*1099511627776 + 4294967296) (h1: 4278190080 ≤ x) (h2 : x<4294967296) : M*256*4294967296 + x%16777216*256 + R*256 ≤ P*256*1099511627776 + 4294967296 := by
  have e : x % 16777216 = x - 4278190080 := by omega
  rw [e, Nat.mul_right_comm M, Nat.mul_right_comm P]
  exact aux _ _ _ _ h h1
theorem Ok.start : Ok E.start 0 0 4294967295 := ⟨rfl, rfl, by decide, by decide, by decide, by decide⟩
theorem Ok.mono {e : E} {Lo k R R' : Nat} (h : Ok e Lo k R) (h1 : R' ≤ R) (h2 : 1 ≤ R') : Ok e Lo k R' :=
  ⟨h.lo, h.k, by have := h.top; omega, by have := h.fix; omega, h.cb, h2⟩
theorem Ok.sub {e : E} {Lo k R : Nat} (h : Ok e Lo k R) (d R' s : Nat) (h1 : d + R' ≤ R) (h2 : 1 ≤ R') : Ok { e with low := e.low + d, size := s } (Lo + d) k R' :=
  ⟨by have := h.lo; dsimp only; omega, h.k, by have := h.top; dsimp only; omega, by have := h.fix; dsimp only; omega, h.cb, h2⟩
theorem Ok.resize {e : E} {Lo k R : Nat} (h : Ok e Lo k R) (s : Nat) : Ok { e with size := s } Lo k R := ⟨h.lo, h.k, h.top, h.fix, h.cb, h.R1⟩

theorem Ok.low_lt {e : E} {Lo k R : Nat} (h : Ok e Lo k R) : e.low < 8589934592 := by have := h.top; have := h.R1; omega

set_option maxRecDepth 20000 in
theorem Ok.shift {e : E} {Lo k R : Nat} (h : Ok e Lo k R) (hR : R < 16777216) : Ok e.shift (Lo * 256) (k + 1) (R * 256) := by
  obtain ⟨lo, hk, top, fix, cb, R1⟩ := h
  unfold E.shift
  have hp : 0 < 256 ^ e.pend := Nat.pow_pos (by decide)
  by_cases hc : e.low / 4294967296 = 1 ∨ e.low % 4294967296 < 4278190080
  · rw [if_pos hc]
    have hflush : val e.flush + 1 - e.low / 4294967296 = val e.out * 256 ^ (e.pend + 1) + (e.cache + 1) * 256 ^ e.pend ∧ e.flush.length = e.out.length + e.pend + 1 := by
      unfold E.flush
      refine ⟨?_, by simp; omega⟩
      rw [val_append, val_cons]
      simp only [List.length_cons, List.length_replicate]
      by_cases h1 : e.low / 4294967296 = 1
      · rw [h1]
        have hcl : e.cache + 1 < 256 := by
          rcases Nat.lt_or_ge (e.cache + 1) 256 with h | h
          · exact h
          · exfalso
            have : 256 * 256 ^ e.pend ≤ (e.cache + 1) * 256 ^ e.pend := Nat.mul_le_mul_right _ h
            omega
        rw [show (UInt8.ofNat (255 + 1)) = 0 from rfl, val_zero]
        rw [show (UInt8.ofNat (e.cache + 1)).toNat = e.cache + 1 by simp; omega]
        omega
      · have h0 : e.low / 4294967296 = 0 := by omega
        rw [h0]
        rw [show (UInt8.ofNat (255 + 0)) = 255 from rfl]
        rw [show (UInt8.ofNat (e.cache + 0)).toNat = e.cache by simp; omega]
        have := val_ff e.pend
        rw [Nat.add_mul, Nat.one_mul]
        omega
    obtain ⟨hf, hl⟩ := hflush
    refine ⟨?_, ?_, ?_, ?_, ?_, by omega⟩
    · show Lo * 256 + 4294967296 = (val e.flush * 256 ^ 1 + (e.low / 16777216 % 256 + 1) * 256 ^ 0) * 4294967296 + e.low % 16777216 * 256
      rw [Nat.pow_one, Nat.pow_zero, Nat.mul_one]
      rw [← hf] at lo
      omega
    · dsimp only; omega
    · dsimp only; omega
    · dsimp only
      rw [Nat.pow_zero, Nat.mul_one, Nat.one_mul]
      clear lo fix hf hl hp hk
      have hlow : e.low < 8589934592 := by omega
      generalize e.low = x at *
      rcases hc with hc | hc
      · omega
      · omega
    · show e.low / 16777216 % 256 < 256
      omega
  · rw [if_neg hc]
    have hlow : 4278190080 ≤ e.low ∧ e.low < 4294967296 := by omega
    refine ⟨?_, ?_, ?_, ?_, cb, by omega⟩
    · show Lo * 256 + 4294967296 = (val e.out * 256 ^ (e.pend + 1 + 1) + (e.cache + 1) * 256 ^ (e.pend + 1)) * 4294967296 + e.low % 16777216 * 256
      have e1 : val e.out * 256 ^ (e.pend + 1 + 1) + (e.cache + 1) * 256 ^ (e.pend + 1) = (val e.out * 256 ^ (e.pend + 1) + (e.cache + 1) * 256 ^ e.pend) * 256 := by
        rw [Nat.pow_succ 256 (e.pend + 1), Nat.pow_succ 256 e.pend, Nat.add_mul (val e.out * _), Nat.mul_assoc (val e.out), Nat.mul_assoc (e.cache + 1)]
      rw [e1]
      generalize val e.out * 256 ^ (e.pend + 1) + (e.cache + 1) * 256 ^ e.pend = N at *
      omega
    · dsimp only; omega
    · dsimp only; omega
    · dsimp only
      rewrite [Nat.pow_succ, ← Nat.mul_assoc]
      exact fixlem _ _ _ _ fix hlow.1 hlow.2

/-- As long as the range is small. -/
def E.widenN : Nat → E → E
  | 0, e => e
  | n + 1, e => if e.size < 16777216 then E.widenN n ({ e with size := e.size * 256 } : E).shift else e
def E.widen (e : E) : E := e.widenN 3
def A.widenN : Nat → A → A
  | 0, a => a
  | n + 1, a => if a.r < 16777216 then A.widenN n ⟨a.lo * 256, a.k + 1, a.r * 256⟩ else a
def A.widen (a : A) : A := a.widenN 3

/-- An encoder stands at a range. -/
structure Rel (e : E) (a : A) : Prop where
  ok : Ok e a.lo a.k a.r
  size : e.size = a.r

theorem E.shift_size (e : E) : e.shift.size = e.size := by unfold E.shift; split <;> rfl
theorem Rel.start : Rel E.start ⟨0, 0, 4294967295⟩ := ⟨Ok.start, rfl⟩
set_option maxRecDepth 20000 in
theorem Rel.widenN {e : E} {a : A} (h : Rel e a) (n : Nat) : Rel (e.widenN n) (a.widenN n) := by
  induction n generalizing e a with
  | zero => exact h
  | succ n ih =>
    unfold E.widenN A.widenN
    rw [h.size]
    by_cases hs : a.r < 16777216
    · rw [if_pos hs, if_pos hs]
      refine ih ⟨(h.ok.resize _).shift hs, ?_⟩
      rw [E.shift_size]
    · rw [if_neg hs, if_neg hs]
      exact h
theorem A.widenN_big (a : A) (n : Nat) (h : 16777216 ≤ a.r) : a.widenN n = a := by
  cases n with
  | zero => rfl
  | succ n => unfold A.widenN; rw [if_neg (by omega)]
set_option maxRecDepth 20000 in
theorem A.widen_r (a : A) (h1 : 1 ≤ a.r) (h2 : a.r < 4294967296) : 16777216 ≤ a.widen.r ∧ a.widen.r < 4294967296 := by
  unfold A.widen
  simp only [A.widenN]
  (repeat' split) <;> simp_all <;> omega

/-- Part of a range: it goes up so far, and is so large. -/
def A.sub (a : A) (d R : Nat) : A := ⟨a.lo + d, a.k, R⟩
def E.sub (e : E) (d R : Nat) : E := { e with low := e.low + d, size := R }
theorem Rel.sub {e : E} {a : A} (h : Rel e a) {d R : Nat} (h1 : d + R ≤ a.r) (h2 : 1 ≤ R) : Rel (e.sub d R) (a.sub d R) := ⟨h.ok.sub d R R h1 h2, rfl⟩
theorem Rel.widen {e : E} {a : A} (h : Rel e a) : Rel e.widen a.widen := h.widenN 3
theorem Rel.low {e : E} {a : A} (h : Rel e a) : e.low < 8589934592 := h.ok.low_lt

/-- All bytes. -/
def E.ended (e : E) : List UInt8 := e.shift.shift.shift.shift.shift.out
theorem E.shift_low (e : E) : e.shift.low = e.low % 16777216 * 256 := by unfold E.shift; split <;> rfl
theorem Ok.shift1 {e : E} {Lo k R : Nat} (h : Ok e Lo k R) : Ok e.shift (Lo * 256) (k + 1) 1 := ((h.mono h.R1 (Nat.le_refl 1)).shift (by decide)).mono (by decide) (by decide)
theorem Rel.ended {e : E} {a : A} (h : Rel e a) : val e.ended = a.lo ∧ e.ended.length = a.k + 5 := by
  have h1 := h.ok.shift1
  have h2 := h1.shift1
  have h3 := h2.shift1
  have h4 := h3.shift1
  have h5 := h4.shift1
  have l4 : e.shift.shift.shift.shift.low = 0 := by
    simp only [E.shift_low]
    omega
  have l5 : e.shift.shift.shift.shift.shift.low = 0 := by
    rw [E.shift_low, l4]
  unfold E.ended
  have hsh : ∀ x : E, x.low = 0 → x.shift.pend = 0 ∧ x.shift.cache = 0 := by
    intro x hx
    unfold E.shift
    rw [hx]
    simp
  obtain ⟨p5, c5⟩ := hsh _ l4
  have h6 := h5.lo
  have h7 := h5.k
  rw [p5, c5, l5] at h6
  rw [p5] at h7
  simp at h6 h7
  omega

/-- The range lies inside so many bytes. -/
structure A.Fits (a : A) : Prop where
  in_ : a.lo + a.r ≤ 256 ^ (a.k + 4)
  r1 : 1 ≤ a.r
theorem A.Fits.start : A.Fits ⟨0, 0, 4294967295⟩ := ⟨by decide, by decide⟩
theorem A.Fits.sub {a : A} (h : a.Fits) {d R : Nat} (h1 : d + R ≤ a.r) (h2 : 1 ≤ R) : (a.sub d R).Fits := ⟨by have := h.in_; show a.lo + d + R ≤ _; simp only [A.sub]; omega, h2⟩
set_option maxRecDepth 20000 in
theorem A.Fits.widenN {a : A} (h : a.Fits) (n : Nat) : (a.widenN n).Fits := by
  induction n generalizing a with
  | zero => exact h
  | succ n ih =>
    unfold A.widenN
    split
    · refine ih ⟨?_, Nat.mul_pos h.r1 (by decide)⟩
      show a.lo * 256 + a.r * 256 ≤ 256 ^ (a.k + 1 + 4)
      have := h.in_
      rw [show a.k + 1 + 4 = (a.k + 4) + 1 by omega, Nat.pow_succ]
      omega
    · exact h
theorem A.Fits.widen {a : A} (h : a.Fits) : a.widen.Fits := h.widenN 3

/-- The document's encoder: the bytes of Low, Range. -/
structure RelL (L : List UInt8) (S : Nat) (a : A) : Prop where
  v : val L = a.lo
  l : L.length = a.k + 4
  s : S = a.r
theorem RelL.start : RelL [0, 0, 0, 0] 4294967295 ⟨0, 0, 4294967295⟩ := ⟨rfl, rfl, rfl⟩

theorem ended_is {e : E} {a : A} {L : List UInt8} {S : Nat} (h : Rel e a) (hL : RelL L S a) : e.ended = 0 :: L := by
  obtain ⟨hv, hl⟩ := h.ended
  refine val_inj _ _ (by rw [hl, List.length_cons, hL.l]) ?_
  rw [hv, val_cons, hL.v]
  simp
/-- A number is added to Low: so many bytes that tell the sum. -/
theorem RelL.sub {L X : List UInt8} {S : Nat} {a : A} (h : RelL L S a) (hf : a.Fits) {d R : Nat} (h1 : d + R ≤ a.r) (h2 : 1 ≤ R) (hX : X.length = L.length) (hv : val X = (val L + d) % 256 ^ L.length) : RelL X R (a.sub d R) := by
  refine ⟨?_, by rw [hX, h.l]; rfl, rfl⟩
  rw [hv, h.v, h.l, Nat.mod_eq_of_lt (by have := hf.in_; omega)]
  rfl
def Lwiden : Nat → List UInt8 × Nat → List UInt8 × Nat
  | 0, x => x
  | n + 1, (L, S) => if S < 16777216 then Lwiden n (L ++ [0], S * 256) else (L, S)
set_option maxRecDepth 20000 in
theorem RelL.widenN {L : List UInt8} {S : Nat} {a : A} (h : RelL L S a) (n : Nat) : RelL (Lwiden n (L, S)).1 (Lwiden n (L, S)).2 (a.widenN n) := by
  induction n generalizing L S a with
  | zero => exact h
  | succ n ih =>
    unfold Lwiden A.widenN
    rw [h.s]
    by_cases hs : a.r < 16777216
    · rw [if_pos hs, if_pos hs]
      refine ih ⟨by rw [val_snoc, h.v]; rfl, by simp [h.l], rfl⟩
    · rw [if_neg hs, if_neg hs]
      exact ⟨h.v, h.l, rfl⟩

/-- A probability learns. -/
def learn (p bit : Nat) : Nat := if bit = 0 then p + (2048 - p) / 32 else p - p / 32
def PrOk (p : Nat) : Prop := 31 ≤ p ∧ p ≤ 2017
theorem PrOk.learn {p : Nat} (h : PrOk p) (bit : Nat) : PrOk (learn p bit) := by
  unfold PrOk Rc.learn at *; split <;> omega
theorem PrOk.start : PrOk 1024 := by unfold PrOk; omega

/-- The part of a range that a bit takes. -/
def bound (r p : Nat) : Nat := r / 2048 * p
theorem bound_in {r p : Nat} (hr : 16777216 ≤ r) (hp : PrOk p) : 1 ≤ bound r p ∧ bound r p < r := by
  unfold bound
  obtain ⟨h1, h2⟩ := hp
  have e : 8192 ≤ r / 2048 := by omega
  have l : r / 2048 * 1 ≤ r / 2048 * p := Nat.mul_le_mul_left _ (by omega)
  have u : r / 2048 * p ≤ r / 2048 * 2017 := Nat.mul_le_mul_left _ h2
  omega
def A.bit (a : A) (p b : Nat) : A := (if b = 0 then a.sub 0 (bound a.r p) else a.sub (bound a.r p) (a.r - bound a.r p)).widen
def A.direct (a : A) (b : Nat) : A := (if b = 0 then a.sub 0 (a.r / 2) else a.sub (a.r / 2) (a.r / 2)).widen
def A.part (a : A) (start size total : Nat) : A := (a.sub (a.r / total * start) (a.r / total * size)).widen
def E.bit (e : E) (p b : Nat) : E := (if b = 0 then e.sub 0 (bound e.size p) else e.sub (bound e.size p) (e.size - bound e.size p)).widen
def E.direct (e : E) (b : Nat) : E := (if b = 0 then e.sub 0 (e.size / 2) else e.sub (e.size / 2) (e.size / 2)).widen
def E.part (e : E) (start size total : Nat) : E := (e.sub (e.size / total * start) (e.size / total * size)).widen

/-- The range is as large as it is between two steps. -/
structure A.Good (a : A) : Prop where
  fits : a.Fits
  lo : 16777216 ≤ a.r
  hi : a.r < 4294967296
theorem A.Good.start : A.Good ⟨0, 0, 4294967295⟩ := ⟨A.Fits.start, by decide, by decide⟩
theorem A.Good.next {a : A} (h : a.Good) {d R : Nat} (h1 : d + R ≤ a.r) (h2 : 1 ≤ R) : (a.sub d R).widen.Good := by
  have h3 := A.widen_r (a.sub d R) h2 (by have := h.hi; show R < _; omega)
  exact ⟨(h.fits.sub h1 h2).widen, h3.1, h3.2⟩
theorem A.Good.bit {a : A} (h : a.Good) {p : Nat} (hp : PrOk p) (b : Nat) : (a.bit p b).Good := by
  have := bound_in h.lo hp
  unfold A.bit
  split
  · exact h.next (by omega) (by omega)
  · exact h.next (by omega) (by omega)
theorem A.Good.direct {a : A} (h : a.Good) (b : Nat) : (a.direct b).Good := by
  have := h.lo
  unfold A.direct
  split
  · exact h.next (by omega) (by omega)
  · exact h.next (by omega) (by omega)
/-- A part that there is. -/
structure PtOk (start size total : Nat) : Prop where
  one : 1 ≤ size
  in_ : start + size ≤ total
  small : total ≤ 16777216
theorem part_in {r start size total : Nat} (hr : 16777216 ≤ r) (h : PtOk start size total) : r / total * start + r / total * size ≤ r ∧ 1 ≤ r / total * size ∧ 1 ≤ r / total := by
  obtain ⟨h1, h2, h3⟩ := h
  have ht : 0 < total := by omega
  have hq : 1 ≤ r / total := (Nat.le_div_iff_mul_le ht).2 (by omega)
  refine ⟨?_, Nat.mul_pos hq h1, hq⟩
  rw [← Nat.mul_add]
  exact Nat.le_trans (Nat.mul_le_mul_left _ h2) (Nat.div_mul_le_self r total)
theorem A.Good.part {a : A} (h : a.Good) {start size total : Nat} (hp : PtOk start size total) : (a.part start size total).Good := by
  have := part_in h.lo hp
  exact h.next this.1 this.2.1
theorem Rel.bit {e : E} {a : A} (h : Rel e a) (hg : a.Good) {p : Nat} (hp : PrOk p) (b : Nat) : Rel (e.bit p b) (a.bit p b) := by
  have := bound_in hg.lo hp
  unfold E.bit A.bit
  rw [h.size]
  split
  · exact (h.sub (by omega) (by omega)).widen
  · exact (h.sub (by omega) (by omega)).widen
theorem Rel.direct {e : E} {a : A} (h : Rel e a) (hg : a.Good) (b : Nat) : Rel (e.direct b) (a.direct b) := by
  have := hg.lo
  unfold E.direct A.direct
  rw [h.size]
  split
  · exact (h.sub (by omega) (by omega)).widen
  · exact (h.sub (by omega) (by omega)).widen
theorem Rel.part {e : E} {a : A} (h : Rel e a) (hg : a.Good) {start size total : Nat} (hp : PtOk start size total) : Rel (e.part start size total) (a.part start size total) := by
  have := part_in hg.lo hp
  unfold E.part A.part
  rw [h.size]
  exact (h.sub this.1 this.2.1).widen
end Go.Rc
