/- Objects with blocks of their own, in a list: one turns, the others stay. -/
import Derived.Test.YtopnnbhiehljlaaFq3
import Derived.Test.YtopnnbhiehljlaaFb
import Derived.Test.YtopnnbhiehljlaaFg
namespace Go.Proofs.Ytopnnbhiehljlaa
set_option linter.unusedVariables false
open Go.RowKit Go.My

/-- What an object says of a world, and its blocks. -/
abbrev Thing := (World → Prop) × (Nat → Prop)
structure Ob (x : Thing) : Prop where
  keep : ∀ {a b : World} {S : Nat → Prop}, x.1 a → Fr S a b → (∀ k, x.2 k → ¬ S k) → x.1 b
  lt : ∀ {a : World} {k : Nat}, x.1 a → x.2 k → k < a.heap.size
structure Own (w wr : World) (l : List Thing) : Prop where
  fr : Fr (fun _ => False) w wr
  is : ∀ (j : Nat) (x : Thing), l[j]? = some x → x.1 wr ∧ Ob x
  old : ∀ (j : Nat) (x : Thing) (k : Nat), l[j]? = some x → x.2 k → w.heap.size ≤ k
  ap : ∀ (i j : Nat) (x y : Thing) (k : Nat), l[i]? = some x → l[j]? = some y → x.2 k → y.2 k → i = j
theorem Own.nil (w : World) : Own w w [] := ⟨Fr.refl _ _, fun j x h => by simp at h, fun j x k h => by simp at h, fun i j x y k h => by simp at h⟩
theorem Own.get {w wr : World} {l : List Thing} (h : Own w wr l) (j : Nat) {x : Thing} (hx : l[j]? = some x) : x.1 wr := (h.is j x hx).1
theorem Own.fresh {w wr w' : World} {l : List Thing} (h : Own w wr l) (hf : Fr (fun _ => False) wr w') : Own w w' l :=
  ⟨h.fr.trans hf (fun _ h => h.elim), fun j x hx => ⟨(h.is j x hx).2.keep (h.is j x hx).1 hf (fun _ _ h => h), (h.is j x hx).2⟩, h.old, h.ap⟩
theorem Own.turn {w wr w' : World} {l : List Thing} (h : Own w wr l) (j : Nat) {x y : Thing} (hx : l[j]? = some x) (hs : Step wr w' x.2 y.2) (hy : y.1 w') (ho : Ob y) : Own w w' (l.set j y) := by
  have hj : j < l.length := by rcases Nat.lt_or_ge j l.length with h | h; exact h; rw [List.getElem?_eq_none h] at hx; cases hx
  have key : ∀ (i : Nat) (z : Thing), (l.set j y)[i]? = some z → (i = j ∧ z = y) ∨ (i ≠ j ∧ l[i]? = some z) := by
    intro i z hz
    by_cases hij : j = i
    · subst hij
      rw [List.getElem?_set_self hj] at hz
      exact .inl ⟨rfl, (Option.some.inj hz).symm⟩
    · rw [List.getElem?_set_ne hij] at hz
      exact .inr ⟨Ne.symm hij, hz⟩
  have foot : ∀ k, y.2 k → x.2 k ∨ wr.heap.size ≤ k := hs.foot
  refine ⟨h.fr.trans hs.fr (fun k hk => .inr (h.old j x k hx hk)), fun i z hz => ?_, fun i z k hz hk => ?_, fun i i2 z z2 k hz hz2 hk hk2 => ?_⟩
  · rcases key i z hz with ⟨rfl, rfl⟩ | ⟨h1, h2⟩
    · exact ⟨hy, ho⟩
    · exact ⟨(h.is i z h2).2.keep (h.is i z h2).1 hs.fr (fun k hk hk2 => h1 (h.ap i j z x k h2 hx hk hk2)), (h.is i z h2).2⟩
  · rcases key i z hz with ⟨rfl, rfl⟩ | ⟨h1, h2⟩
    · rcases foot k hk with h3 | h3
      · exact h.old _ _ k hx h3
      · exact Nat.le_trans h.fr.size h3
    · exact h.old i z k h2 hk
  · rcases key i z hz with ⟨rfl, rfl⟩ | ⟨h1, h2⟩ <;> rcases key i2 z2 hz2 with ⟨rfl, rfl⟩ | ⟨h3, h4⟩
    · rfl
    · rcases foot k hk with h5 | h5
      · exact h.ap _ i2 x z2 k hx h4 h5 hk2
      · have := (h.is i2 z2 h4).2.lt (h.is i2 z2 h4).1 hk2
        omega
    · rcases foot k hk2 with h5 | h5
      · exact h.ap i _ z x k h2 hx hk h5
      · have := (h.is i z h2).2.lt (h.is i z h2).1 hk
        omega
    · exact h.ap i i2 z z2 k h2 h4 hk hk2
theorem Own.snoc {w wr w' : World} {l : List Thing} (h : Own w wr l) {y : Thing} (hf : Fr (fun _ => False) wr w') (hy : y.1 w') (ho : Ob y) (hn : ∀ k, y.2 k → wr.heap.size ≤ k) : Own w w' (l ++ [y]) := by
  have key : ∀ (i : Nat) (z : Thing), (l ++ [y])[i]? = some z → (i = l.length ∧ z = y) ∨ (i < l.length ∧ l[i]? = some z) := by
    intro i z hz
    rcases Nat.lt_or_ge i l.length with h1 | h1
    · rw [List.getElem?_append_left h1] at hz
      exact .inr ⟨h1, hz⟩
    · rw [List.getElem?_append_right h1] at hz
      rcases Nat.eq_zero_or_pos (i - l.length) with h2 | h2
      · rw [h2] at hz
        exact .inl ⟨by omega, (Option.some.inj hz).symm⟩
      · rw [List.getElem?_eq_none (by simp; omega)] at hz
        cases hz
  have h2 := h.fresh hf
  refine ⟨h2.fr, fun i z hz => ?_, fun i z k hz hk => ?_, fun i i2 z z2 k hz hz2 hk hk2 => ?_⟩
  · rcases key i z hz with ⟨rfl, rfl⟩ | ⟨_, h3⟩
    · exact ⟨hy, ho⟩
    · exact h2.is i z h3
  · rcases key i z hz with ⟨rfl, rfl⟩ | ⟨_, h3⟩
    · exact Nat.le_trans h.fr.size (hn k hk)
    · exact h.old i z k h3 hk
  · rcases key i z hz with ⟨rfl, rfl⟩ | ⟨h1, h3⟩ <;> rcases key i2 z2 hz2 with ⟨rfl, rfl⟩ | ⟨h4, h5⟩
    · rfl
    · have := (h.is i2 z2 h5).2.lt (h.is i2 z2 h5).1 hk2
      have := hn k hk
      omega
    · have := (h.is i z h3).2.lt (h.is i z h3).1 hk
      have := hn k hk2
      omega
    · exact h.ap i i2 z z2 k h3 h5 hk hk2
/-- Fewer of them. -/
theorem Own.sub {w wr : World} {l : List Thing} (h : Own w wr l) (n : Nat) : Own w wr (l.take n) := by
  have key : ∀ (i : Nat) (z : Thing), (l.take n)[i]? = some z → l[i]? = some z := by
    intro i z hz
    rw [List.getElem?_take] at hz
    split at hz
    · exact hz
    · cases hz
  exact ⟨h.fr, fun i z hz => h.is i z (key i z hz), fun i z k hz => h.old i z k (key i z hz), fun i j x y k hx hy => h.ap i j x y k (key i x hx) (key j y hy)⟩

def tabO (p : Nat) (t : Fq.T) (v1 v2 : Value) : Thing := (fun w => TabAt w p t v1 v2, tabFoot p v1 v2)
theorem tabO_ob (p : Nat) (t : Fq.T) (v1 v2 : Value) : Ob (tabO p t v1 v2) := ⟨fun h hf hs => TabAt.keep h hf hs, fun h hk => TabAt.lt h hk⟩
def encO (p : Nat) (v : Value) (ops : List Rc.Op) : Thing := (fun w => EncO w p v ops, encFoot p v)
theorem encO_ob (p : Nat) (v : Value) (ops : List Rc.Op) : Ob (encO p v ops) := ⟨fun h hf hs => EncO.keep h hf hs, fun {a k} h hk => by
  rcases hk with rfl | hk
  · exact lt_of_block h.at_.blk
  · obtain ⟨cur, hc⟩ := own_ty h.at_.own hk
    exact lt_of_block hc⟩
def decO (p : Nat) (d : Rc.D) : Thing := (fun w => DecAt w p d ∧ DecG d, one p)
theorem decO_ob (p : Nat) (d : Rc.D) : Ob (decO p d) := ⟨fun h hf hs => ⟨h.1.keep hf (hs p rfl), h.2⟩, fun {a k} h hk => by cases hk; exact lt_of_block h.1.blk⟩
def setO (q n : Nat) (f : Nat → Bool) : Thing := (fun w => SetAt w q f n, one q)
theorem setO_ob (q n : Nat) (f : Nat → Bool) : Ob (setO q n f) := ⟨fun h hf hs => h.keep hf (hs q rfl), fun {a k} h hk => by cases hk; exact lt_of_block h⟩
theorem Step.one {w w' : World} {p : Nat} (h : Fr (one p) w w') : Step w w' (one p) (one p) := ⟨h, fun k hk => .inl hk⟩

section
variable {w wr : World} {l : List Thing}
theorem own_add (h : Own w wr l) (j p : Nat) (t : Fq.T) (v1 v2 : Value) (hx : l[j]? = some (tabO p t v1 v2)) (hOk : t.Ok) (x : UInt8) :
    Calls Try.prog 32 #[.pointer (some ⟨p, 0, none⟩), .int .u8 (x.toNat : Int)] wr fun r w' => r = .returned (.tuple #[]) ∧ ∃ v1' v2', Own w w' (l.set j (tabO p (t.add x) v1' v2')) :=
  (tab_add p t v1 v2 x wr (h.get j hx) hOk).mono fun r w' ⟨h1, v1', v2', h2, h3⟩ => ⟨h1, v1', v2', h.turn j hx h3 h2 (tabO_ob _ _ _ _)⟩
theorem own_tnew (h : Own w wr l) : Calls Try.prog 53 #[] wr fun r w' => r = .returned (.pointer (some ⟨wr.heap.size, 0, none⟩)) ∧ Own w w' (l ++ [tabO wr.heap.size Fq.T.none_ (.slice none 0 0) (.slice none 0 0)]) :=
  (tab_new wr).mono fun r w' ⟨h1, h2, h3⟩ => ⟨h1, h.snoc h3 h2 (tabO_ob _ _ _ _) (fun k hk => by rcases hk with rfl | hk | hk; exact Nat.le_refl _; cases hk; cases hk)⟩
theorem own_enew (h : Own w wr l) : Calls Try.prog 38 #[] wr fun r w' => r = .returned (.pointer (some ⟨wr.heap.size, 0, none⟩)) ∧ Own w w' (l ++ [encO wr.heap.size (.slice none 0 0) []]) :=
  (enc_new wr).mono fun r w' ⟨h1, h2, h3⟩ => ⟨h1, h.snoc h3 h2 (encO_ob _ _ _) (fun k hk => by rcases hk with rfl | hk; exact Nat.le_refl _; cases hk)⟩
theorem own_dnew (h : Own w wr l) (B : List UInt8) (hB : B.length ≤ 1000000000) : Calls Try.prog 45 #[.string ⟨B.toArray⟩] wr fun r w' => r = .returned (.pointer (some ⟨wr.heap.size, 0, none⟩)) ∧ Own w w' (l ++ [decO wr.heap.size (Rc.D.read B)]) :=
  (dec_new B wr hB).mono fun r w' ⟨h1, h2, h3, h4⟩ => ⟨h1, h.snoc h4 ⟨h2, h3⟩ (decO_ob _ _) (fun k hk => by cases hk; exact Nat.le_refl _)⟩
theorem own_put (h : Own w wr l) (j i p pe : Nat) (t : Fq.T) (v1 v2 v : Value) (ops : List Rc.Op) (hx : l[j]? = some (tabO p t v1 v2)) (he : l[i]? = some (encO pe v ops)) (hOk : t.Ok) (hops : ops.length ≤ 90000000) (nv : Value) (f : Nat → Bool) (m : Nat) (hn : NotAt wr nv f m) (x : UInt8) :
    Calls Try.prog 54 #[.pointer (some ⟨p, 0, none⟩), .pointer (some ⟨pe, 0, none⟩), .int .u8 (x.toNat : Int), nv] wr fun r w' => r = .returned (.bool (t.isIn x (bySign f))) ∧ ∃ v', Own w w' (l.set i (encO pe v' (ops ++ [t.putOp x (bySign f)]))) :=
  (tab_put p pe v ops t v1 v2 nv f m x wr (h.get j hx) hOk (h.get i he) hops hn).mono fun r w' ⟨h1, v', h2, h3⟩ => ⟨h1, v', h.turn i he h3 h2 (encO_ob _ _ _)⟩
theorem own_put_any (h : Own w wr l) (i pe : Nat) (v : Value) (ops : List Rc.Op) (he : l[i]? = some (encO pe v ops)) (hops : ops.length ≤ 90000000) (nv : Value) (f : Nat → Bool) (m : Nat) (hn : NotAt wr nv f m) (hm : m + Fq.below f 256 = 256) (x : UInt8) (hx : f x.toNat = false) :
    Calls Try.prog 56 #[.pointer (some ⟨pe, 0, none⟩), .int .u8 (x.toNat : Int), nv] wr fun r w' => r = .returned (.tuple #[]) ∧ ∃ v', Own w w' (l.set i (encO pe v' (ops ++ [Fq.anyOp x f]))) :=
  (put_any_sign pe v ops nv f m x wr (h.get i he) hops hn hm hx).mono fun r w' ⟨h1, v', h2, h3⟩ => ⟨h1, v', h.turn i he h3 h2 (encO_ob _ _ _)⟩
theorem own_get (h : Own w wr l) (j i p pd : Nat) (t : Fq.T) (v1 v2 : Value) (d : Rc.D) (hx : l[j]? = some (tabO p t v1 v2)) (hd : l[i]? = some (decO pd d)) (hOk : t.Ok) (nv : Value) (f : Nat → Bool) (m : Nat) (hn : NotAt wr nv f m) :
    Calls Try.prog 61 #[.pointer (some ⟨p, 0, none⟩), .pointer (some ⟨pd, 0, none⟩), nv] wr fun r w' => r = .returned (.tuple #[.int .u8 ((t.get (bySign f) d).1.1.toNat : Int), .bool (t.get (bySign f) d).1.2]) ∧ Own w w' (l.set i (decO pd (t.get (bySign f) d).2)) :=
  (tab_get p pd d t v1 v2 nv f m wr (h.get j hx) hOk (h.get i hd).1 (h.get i hd).2 hn).mono fun r w' ⟨h1, h2, h3, h4⟩ => ⟨h1, h.turn i hd (y := decO pd (t.get (bySign f) d).2) (Step.one h4) ⟨h2, h3⟩ (decO_ob _ _)⟩
theorem own_get_any (h : Own w wr l) (i pd : Nat) (d : Rc.D) (hd : l[i]? = some (decO pd d)) (nv : Value) (f : Nat → Bool) (m : Nat) (hn : NotAt wr nv f m) (hm : m + Fq.below f 256 = 256) (hb : 1 ≤ Fq.below f 256) :
    Calls Try.prog 63 #[.pointer (some ⟨pd, 0, none⟩), nv] wr fun r w' => r = .returned (.int .u8 ((Fq.getAny f d).1.toNat : Int)) ∧ Own w w' (l.set i (decO pd (Fq.getAny f d).2)) :=
  (get_any_sign pd d nv f m wr (h.get i hd).1 (h.get i hd).2 hn hm hb).mono fun r w' ⟨h1, h2, h3, h4⟩ => ⟨h1, h.turn i hd (y := decO pd (Fq.getAny f d).2) (Step.one h4) ⟨h2, h3⟩ (decO_ob _ _)⟩
theorem own_end (h : Own w wr l) (i pe : Nat) (v : Value) (ops : List Rc.Op) (he : l[i]? = some (encO pe v ops)) (hops : ops.length ≤ 100000000) :
    Calls Try.prog 40 #[.pointer (some ⟨pe, 0, none⟩)] wr fun r w' => r = .returned (.string ⟨(Rc.bytes ops).toArray⟩) ∧ Own w w' l :=
  (end_ops pe v ops wr (h.get i he) hops).mono fun r w' ⟨h1, h2⟩ => ⟨h1, h.fresh h2⟩
end
end Go.Proofs.Ytopnnbhiehljlaa
