/- ArenaPlays, the plain law: what the law's maps and list say of the arena's cells. -/
import Derived.Test.YtfmoagdhajfngaaAr
set_option linter.unusedVariables false
set_option linter.unusedSimpArgs false
namespace Go.My
open Go.RowKit

def cntT (us : List Cl) : Nat := us.countP (fun x => x.2.2)
theorem cntT_set (us : List Cl) (j b b' : Nat) (v v' : Value) (t t' : Bool) (h : us[j]? = some ((b, v, t) : Cl)) : cntT (us.set j (b', v', t')) + (if t then 1 else 0) = cntT us + (if t' then 1 else 0) := by
  induction us generalizing j with
  | nil => simp at h
  | cons x xs ih =>
    cases j with
    | zero =>
      simp at h
      subst h
      cases t <;> cases t' <;> simp [cntT, List.countP_cons]
    | succ j =>
      simp at h
      have := ih j h
      simp only [cntT, List.set_cons_succ, List.countP_cons] at this ⊢
      omega

structure Inv (us : List Cl) (fs : List Nat) (tk : Int → Bool) (vl : Int → Int) : Prop where
  ints : ∀ (j b : Nat) (v : Value) (t : Bool), us[j]? = some ((b, v, t) : Cl) → ∃ x : Int, v = .int .i64 x ∧ (t = true → vl ((j : Int) + 1) = x)
  tkn : ∀ (j b : Nat) (v : Value) (t : Bool), us[j]? = some ((b, v, t) : Cl) → tk ((j : Int) + 1) = t
  out : ∀ k : Int, (k < 1 ∨ (us.length : Int) < k) → tk k = false
  fre : ∀ k ∈ fs, ∃ (j b : Nat) (v : Value), k = j + 1 ∧ us[j]? = some ((b, v, false) : Cl)
  cnt : cntT us + fs.length = us.length
  nd : fs.Nodup

variable {us : List Cl} {fs : List Nat} {tk : Int → Bool} {vl : Int → Int}

theorem Inv.none : Inv [] [] (fun _ => false) vl := ⟨fun j b v t h => by simp at h, fun j b v t h => by simp at h, fun _ _ => rfl, fun k h => by simp at h, rfl, List.nodup_nil⟩
theorem Inv.fle (h : Inv us fs tk vl) : fs.length ≤ us.length := by have := h.cnt; omega

theorem Inv.push (h : Inv us [] tk vl) (b : Nat) (x : Int) :
    Inv (us ++ [(b, .int .i64 x, true)]) [] (fun k => if k = (us.length : Int) + 1 then true else tk k) (fun k => if k = (us.length : Int) + 1 then x else vl k) := by
  have part : ∀ (j c : Nat) (v : Value) (t : Bool), (us ++ [((b, .int .i64 x, true) : Cl)])[j]? = some ((c, v, t) : Cl) → (j < us.length ∧ us[j]? = some ((c, v, t) : Cl)) ∨ (j = us.length ∧ v = .int .i64 x ∧ t = true) := by
    intro j c v t hi
    by_cases hlt : j < us.length
    · exact .inl ⟨hlt, by rwa [List.getElem?_append_left hlt] at hi⟩
    · have hlen := (List.getElem?_eq_some_iff.1 hi).1
      simp at hlen
      obtain rfl : j = us.length := by omega
      simp at hi
      exact .inr ⟨rfl, hi.2.1.symm, hi.2.2⟩
  refine ⟨fun j c v t hj => ?_, fun j c v t hj => ?_, fun k hk => ?_, fun k hk => by simp at hk, ?_, List.nodup_nil⟩
  · rcases part j c v t hj with ⟨hl, h1⟩ | ⟨rfl, rfl, rfl⟩
    · obtain ⟨y, h2, h3⟩ := h.ints j c v t h1
      refine ⟨y, h2, fun ht => ?_⟩
      rw [if_neg (by omega)]
      exact h3 ht
    · exact ⟨x, rfl, fun _ => by simp⟩
  · rcases part j c v t hj with ⟨hl, h1⟩ | ⟨rfl, rfl, rfl⟩
    · show (if _ then _ else _) = _
      rw [if_neg (by omega)]
      exact h.tkn j c v t h1
    · simp
  · simp at hk
    show (if _ then _ else _) = _
    rw [if_neg (by omega)]
    exact h.out k (by omega)
  · have := h.cnt
    simp [cntT, List.countP_append] at this ⊢
    omega

theorem Inv.retake {gs : List Nat} {j b : Nat} {v : Value} (h : Inv us (gs ++ [j + 1]) tk vl) (hj : us[j]? = some ((b, v, false) : Cl)) (x : Int) :
    Inv (us.set j (b, .int .i64 x, true)) gs (fun k => if k = (j : Int) + 1 then true else tk k) (fun k => if k = (j : Int) + 1 then x else vl k) := by
  have hlt := (List.getElem?_eq_some_iff.1 hj).1
  have part : ∀ (i c : Nat) (y : Value) (t : Bool), (us.set j (b, .int .i64 x, true))[i]? = some ((c, y, t) : Cl) → (i = j ∧ y = .int .i64 x ∧ t = true) ∨ (i ≠ j ∧ us[i]? = some ((c, y, t) : Cl)) := by
    intro i c y t hi
    by_cases h1 : j = i
    · subst h1
      rw [List.getElem?_set_self hlt] at hi
      simp at hi
      exact .inl ⟨rfl, hi.2.1.symm, hi.2.2⟩
    · rw [List.getElem?_set_ne h1] at hi
      exact .inr ⟨fun e => h1 e.symm, hi⟩
  have hnd := h.nd
  rw [List.nodup_append] at hnd
  refine ⟨fun i c y t hi => ?_, fun i c y t hi => ?_, fun k hk => ?_, fun k hk => ?_, ?_, hnd.1⟩
  · rcases part i c y t hi with ⟨rfl, rfl, rfl⟩ | ⟨hne, h1⟩
    · exact ⟨x, rfl, fun _ => by simp⟩
    · obtain ⟨z, h2, h3⟩ := h.ints i c y t h1
      refine ⟨z, h2, fun ht => ?_⟩
      rw [if_neg (by omega)]
      exact h3 ht
  · rcases part i c y t hi with ⟨rfl, rfl, rfl⟩ | ⟨hne, h1⟩
    · simp
    · show (if _ then _ else _) = _
      rw [if_neg (by omega)]
      exact h.tkn i c y t h1
  · simp at hk
    show (if _ then _ else _) = _
    rw [if_neg (by omega)]
    exact h.out k (by omega)
  · obtain ⟨i, c, y, rfl, h1⟩ := h.fre k (by simp [hk])
    have hne : i ≠ j := by
      rintro rfl
      exact hnd.2.2 (i + 1) hk (i + 1) (by simp) rfl
    exact ⟨i, c, y, rfl, by rw [List.getElem?_set_ne (fun e => hne e.symm)]; exact h1⟩
  · have h1 := h.cnt
    have h2 := cntT_set us j b b v (.int .i64 x) false true hj
    simp at h1 h2 ⊢
    omega

theorem Inv.free {j b : Nat} {v : Value} (h : Inv us fs tk vl) (hj : us[j]? = some ((b, v, true) : Cl)) :
    Inv (us.set j (b, .int .i64 0, false)) (fs ++ [j + 1]) (fun k => if k = (j : Int) + 1 then false else tk k) vl := by
  have hlt := (List.getElem?_eq_some_iff.1 hj).1
  have part : ∀ (i c : Nat) (y : Value) (t : Bool), (us.set j (b, .int .i64 0, false))[i]? = some ((c, y, t) : Cl) → (i = j ∧ y = .int .i64 0 ∧ t = false) ∨ (i ≠ j ∧ us[i]? = some ((c, y, t) : Cl)) := by
    intro i c y t hi
    by_cases h1 : j = i
    · subst h1
      rw [List.getElem?_set_self hlt] at hi
      simp at hi
      exact .inl ⟨rfl, hi.2.1.symm, hi.2.2⟩
    · rw [List.getElem?_set_ne h1] at hi
      exact .inr ⟨fun e => h1 e.symm, hi⟩
  have hnot : ∀ k ∈ fs, k ≠ j + 1 := by
    rintro k hk rfl
    obtain ⟨i, c, y, he, h1⟩ := h.fre _ hk
    obtain rfl : i = j := by omega
    rw [hj] at h1
    simp at h1
  refine ⟨fun i c y t hi => ?_, fun i c y t hi => ?_, fun k hk => ?_, fun k hk => ?_, ?_, ?_⟩
  · rcases part i c y t hi with ⟨rfl, rfl, rfl⟩ | ⟨hne, h1⟩
    · exact ⟨0, rfl, fun h => by cases h⟩
    · exact h.ints i c y t h1
  · rcases part i c y t hi with ⟨rfl, rfl, rfl⟩ | ⟨hne, h1⟩
    · simp
    · show (if _ then _ else _) = _
      rw [if_neg (by omega)]
      exact h.tkn i c y t h1
  · simp at hk
    show (if _ then _ else _) = _
    split
    · rfl
    · exact h.out k (by omega)
  · rw [List.mem_append] at hk
    rcases hk with hk | hk
    · obtain ⟨i, c, y, rfl, h1⟩ := h.fre k hk
      have hne : i ≠ j := by
        rintro rfl
        exact hnot _ hk rfl
      exact ⟨i, c, y, rfl, by rw [List.getElem?_set_ne (fun e => hne e.symm)]; exact h1⟩
    · simp at hk
      exact ⟨j, b, .int .i64 0, hk, List.getElem?_set_self hlt⟩
  · have h1 := h.cnt
    have h2 := cntT_set us j b b v (.int .i64 0) true false hj
    simp at h1 h2 ⊢
    omega
  · rw [List.nodup_append]
    refine ⟨h.nd, by simp, ?_⟩
    intro a ha c hc
    simp at hc
    subst hc
    exact hnot a ha

theorem Inv.setVal {j b : Nat} {v : Value} (h : Inv us fs tk vl) (hj : us[j]? = some ((b, v, true) : Cl)) (x : Int) :
    Inv (us.set j (b, .int .i64 x, true)) fs tk (fun k => if k = (j : Int) + 1 then x else vl k) := by
  have hlt := (List.getElem?_eq_some_iff.1 hj).1
  have part : ∀ (i c : Nat) (y : Value) (t : Bool), (us.set j (b, .int .i64 x, true))[i]? = some ((c, y, t) : Cl) → (i = j ∧ y = .int .i64 x ∧ t = true) ∨ (i ≠ j ∧ us[i]? = some ((c, y, t) : Cl)) := by
    intro i c y t hi
    by_cases h1 : j = i
    · subst h1
      rw [List.getElem?_set_self hlt] at hi
      simp at hi
      exact .inl ⟨rfl, hi.2.1.symm, hi.2.2⟩
    · rw [List.getElem?_set_ne h1] at hi
      exact .inr ⟨fun e => h1 e.symm, hi⟩
  refine ⟨fun i c y t hi => ?_, fun i c y t hi => ?_, fun k hk => ?_, fun k hk => ?_, ?_, h.nd⟩
  · rcases part i c y t hi with ⟨rfl, rfl, rfl⟩ | ⟨hne, h1⟩
    · exact ⟨x, rfl, fun _ => by simp⟩
    · obtain ⟨z, h2, h3⟩ := h.ints i c y t h1
      refine ⟨z, h2, fun ht => ?_⟩
      rw [if_neg (by omega)]
      exact h3 ht
  · rcases part i c y t hi with ⟨rfl, rfl, rfl⟩ | ⟨hne, h1⟩
    · exact h.tkn _ _ _ _ hj
    · exact h.tkn i c y t h1
  · simp at hk
    exact h.out k (by omega)
  · obtain ⟨i, c, y, rfl, h1⟩ := h.fre k hk
    have hne : i ≠ j := by
      rintro rfl
      rw [hj] at h1
      simp at h1
    exact ⟨i, c, y, rfl, by rw [List.getElem?_set_ne (fun e => hne e.symm)]; exact h1⟩
  · have h1 := h.cnt
    have h2 := cntT_set us j b b v (.int .i64 x) true true hj
    simp at h1 h2 ⊢
    omega

/-- What a place holds, in the law's words: taken or not. -/
theorem Inv.place (h : Inv us fs tk vl) (k : Int) : (tk k = false ∧ ((k < 1 ∨ (us.length : Int) < k) ∨ ∃ (j b : Nat) (v : Value), k = (j : Int) + 1 ∧ us[j]? = some ((b, v, false) : Cl))) ∨
    (tk k = true ∧ ∃ (j b : Nat), k = (j : Int) + 1 ∧ us[j]? = some ((b, .int .i64 (vl k), true) : Cl)) := by
  by_cases ho : k < 1 ∨ (us.length : Int) < k
  · exact .inl ⟨h.out k ho, .inl ho⟩
  · obtain ⟨j, rfl⟩ : ∃ j : Nat, k = (j : Int) + 1 := ⟨(k - 1).toNat, by omega⟩
    have hlt : j < us.length := by omega
    obtain ⟨y, hg⟩ : ∃ y, us[j]? = some y := ⟨_, List.getElem?_eq_getElem hlt⟩
    obtain ⟨b, v, t⟩ := y
    have ht := h.tkn j b v t hg
    cases t with
    | false => exact .inl ⟨ht, .inr ⟨j, b, v, rfl, hg⟩⟩
    | true =>
      obtain ⟨x, rfl, hx2⟩ := h.ints j b v true hg
      exact .inr ⟨ht, j, b, rfl, by rw [hx2 rfl]; exact hg⟩
end Go.My
