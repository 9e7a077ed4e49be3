/- Layer 5 (freq): sets of signs: the functions. -/
import Derived.Test.YtopnnbhiehljlaaEnc4
import Derived.Test.YtopnnbhiehljlaaDec4
import Derived.Test.YtopnnbhiehljlaaFq
import Derived.StillTailTactics
import Derived.Deep.CutBlock
import Derived.Outline
namespace Go.Proofs.Ytopnnbhiehljlaa
set_option linter.unusedVariables false
open Go.RowKit Go.My

/-- A set of signs as cells: has it each, and how many they are. -/
def setArr (f : Nat → Bool) (n : Nat) : Array Value := ((List.range 256).map (fun i => Value.bool (f i)) ++ [Value.int .i64 (n : Int)]).toArray
theorem setArr_get (f : Nat → Bool) (n i : Nat) (h : i < 256) : (setArr f n)[i]? = some (.bool (f i)) := by
  unfold setArr
  rw [List.getElem?_toArray, List.getElem?_append_left (by simpa using h)]
  simp [h]
theorem setArr_n (f : Nat → Bool) (n : Nat) : (setArr f n)[256]? = some (.int .i64 (n : Int)) := by
  unfold setArr
  rw [List.getElem?_toArray, List.getElem?_append_right (by simp)]
  simp
def SetAt (w : World) (q : Nat) (f : Nat → Bool) (n : Nat) : Prop := w.heap[q]? = some (.cells (setArr f n) 107 (0, 0))
theorem SetAt.keep {w w' : World} {q n : Nat} {f : Nat → Bool} {S : Nat → Prop} (h : SetAt w q f n) (hf : Fr S w w') (hs : ¬ S q) : SetAt w' q f n := hf.keep h hs
theorem SetAt.get {w : World} {q n : Nat} {f : Nat → Bool} (h : SetAt w q f n) (i : Nat) (hi : i < 256) : w.cell? ⟨q, i, none⟩ = some (.bool (f i)) := (cell_of h i).trans (setArr_get f n i hi)
theorem SetAt.len {w : World} {q n : Nat} {f : Nat → Bool} (h : SetAt w q f n) : w.cell? ⟨q, 256, none⟩ = some (.int .i64 (n : Int)) := (cell_of h 256).trans (setArr_n f n)

/-- A set that may be none. -/
inductive NotAt (w : World) : Value → (Nat → Bool) → Nat → Prop
  | none_ : NotAt w (.pointer none) (fun _ => false) 0
  | some_ (q n : Nat) (f : Nat → Bool) (h : SetAt w q f n) : NotAt w (.pointer (some ⟨q, 0, none⟩)) f n
def notFoot (v : Value) : Nat → Prop := fun k => v = .pointer (some ⟨k, 0, none⟩)
theorem NotAt.keep {w w' : World} {v : Value} {n : Nat} {f : Nat → Bool} {S : Nat → Prop} (h : NotAt w v f n) (hf : Fr S w w') (hs : ∀ k, notFoot v k → ¬ S k) : NotAt w' v f n := by
  cases h with
  | none_ => exact .none_
  | some_ q n f h => exact .some_ q n f (h.keep hf (hs q rfl))
theorem NotAt.ty {w : World} {v : Value} {n : Nat} {f : Nat → Bool} (h : NotAt w v f n) {k : Nat} (hk : notFoot v k) : ∃ cs, w.heap[k]? = some (.cells cs 107 (0, 0)) := by
  cases h with
  | none_ => cases hk
  | some_ q n f h =>
    obtain rfl : q = k := by unfold notFoot at hk; injection hk with h1; injection h1 with h2; injection h2
    exact ⟨_, h⟩

set_option maxHeartbeats 400000 in
theorem set_has (v : Value) (f : Nat → Bool) (n x : Nat) (w : World) (h : NotAt w v f n) (hx : x < 256) : Calls Try.prog 65 #[v, .int .u8 (x : Int)] w fun r w' => r = .returned (.bool (f x)) ∧ w = w' := by
  have hxi : (x : Int) < 256 := by omega
  cases h with
  | none_ =>
    go_enter Try.func65, Try.ntmps65
    go_wp2
    go_ret
    exact ⟨rfl, rfl⟩
  | some_ q n f h =>
    have c := h.get x hx
    clear h
    go_enter Try.func65, Try.ntmps65
    go_wp2
    go_ret
    exact ⟨rfl, rfl⟩
theorem set_len (v : Value) (f : Nat → Bool) (n : Nat) (w : World) (h : NotAt w v f n) : Calls Try.prog 62 #[v] w fun r w' => r = .returned (.int .i64 (n : Int)) ∧ w = w' := by
  cases h with
  | none_ =>
    go_enter Try.func62, Try.ntmps62
    go_wp2
    go_ret
    exact ⟨rfl, rfl⟩
  | some_ q n f h =>
    have c := h.len
    clear h
    go_enter Try.func62, Try.ntmps62
    go_wp2
    go_ret
    exact ⟨rfl, rfl⟩

def addB (f : Nat → Bool) (x : Nat) : Nat → Bool := fun i => f i || (i == x)
theorem addB_old {f : Nat → Bool} {x : Nat} (h : f x = true) : addB f x = f := by
  funext i
  unfold addB
  by_cases e : i = x
  · subst e; simp [h]
  · simp [e]
theorem setArr_add (f : Nat → Bool) (n x : Nat) (h : x < 256) : ((setArr f n).setIfInBounds x (.bool true)).setIfInBounds 256 (.int .i64 (((n + 1 : Nat)) : Int)) = setArr (addB f x) (n + 1) := by
  have hs : ∀ g m, (setArr g m).size = 257 := fun g m => by simp [setArr]
  apply Array.ext
  · simp [hs]
  · intro i h1 h2
    have hi : i < 257 := by rw [hs] at h2; exact h2
    rw [Array.getElem_setIfInBounds]
    · by_cases e6 : 256 = i
      · subst e6
        simp only [if_true]
        have := setArr_n (addB f x) (n + 1)
        rw [Array.getElem?_eq_getElem (by rw [hs]; decide)] at this
        exact (Option.some.inj this).symm
      · rw [if_neg e6, Array.getElem_setIfInBounds]
        · have g1 := setArr_get (addB f x) (n + 1) i (by omega)
          have g0 := setArr_get f n i (by omega)
          rw [Array.getElem?_eq_getElem (by rw [hs]; omega)] at g1 g0
          injection g1 with g1
          injection g0 with g0
          rw [g1]
          by_cases e : x = i
          · subst e; simp [addB]
          · have e2 : ¬ i = x := fun h => e h.symm
            rw [if_neg e, g0]; simp [addB, e2]
        · rw [hs]; omega

    · simp [hs]; omega

set_option maxHeartbeats 1000000 in
theorem set_add (q n : Nat) (f : Nat → Bool) (x : Nat) (w : World) (h : SetAt w q f n) (hx : x < 256) (hn : n ≤ 1000000) :
    Calls Try.prog 67 #[.pointer (some ⟨q, 0, none⟩), .int .u8 (x : Int)] w fun r w' => r = .returned (.tuple #[]) ∧ SetAt w' q (addB f x) (if f x then n else n + 1) ∧ Fr (fun k => k = q) w w' := by
  have hxi : (x : Int) < 256 := by omega
  have hni : (n : Int) ≤ 1000000 := by omega
  have c := h.get x hx
  by_cases hf : f x = true
  · rw [hf] at c
    have ha := addB_old hf
    rw [if_pos hf, ha]
    have H := Lib.hid h
    clear h hf ha
    go_enter Try.func67, Try.ntmps67
    go_wp2
    refine bodyPost_ret (results_none rfl _ _ _) rfl ?_
    exact ⟨rfl, H.out, Fr.refl _ _⟩
  · rw [if_neg hf]
    have hf2 : f x = false := by simpa using hf
    rw [hf2] at c
    have cn := h.len
    have f1 := free_of h x
    have f2 := free_of h 256
    have hb := block_setCell (block_setCell h (.bool true) (off := x)) (.int .i64 (((n + 1 : Nat)) : Int)) (off := 256)
    rw [setArr_add f n x hx] at hb
    have hfr : Fr (fun k => k = q) w ((w.setCell ⟨q, x, none⟩ (.bool true)).setCell ⟨q, 256, none⟩ (.int .i64 (((n + 1 : Nat)) : Int))) := ((Fr.refl (fun k => k = q) w).setCell ⟨q, x, none⟩ _ (.inl rfl)).setCell ⟨q, 256, none⟩ _ (.inl rfl)
    rw [show (((n + 1 : Nat)) : Int) = (n : Int) + 1 by omega] at hb hfr
    have Hb := Lib.hid hb
    have Hf := Lib.hid hfr
    clear h hf hf2 hb hfr hn
    go_enter Try.func67, Try.ntmps67
    go_wp2
    go_end0
    exact ⟨rfl, Hb.out, Hf.out⟩
theorem set_add_nil (x : Nat) (w : World) : Calls Try.prog 67 #[.pointer none, .int .u8 (x : Int)] w fun r w' => r = .returned (.tuple #[]) ∧ w = w' := by
  go_enter Try.func67, Try.ntmps67
  go_wp2
  refine bodyPost_ret (results_none rfl _ _ _) rfl ?_
  exact ⟨rfl, rfl⟩
end Go.Proofs.Ytopnnbhiehljlaa
