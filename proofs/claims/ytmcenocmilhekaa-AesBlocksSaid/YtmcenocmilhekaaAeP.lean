/- The plain law of layer 25 (aes): keys, blocks, texts. -/
import Derived.Test.YtmcenocmilhekaaAe7
namespace Go.Proofs.Ytmcenocmilhekaa
set_option linter.unusedVariables false
open Go.RowKit Go.My Go.Aes

/-- What turns the first byte of word 8 + k. -/
def tuN (k : Nat) : Nat := 2 ^ ((k + 7) / 8)
theorem tuN_next (k : Nat) (hk : k < 52) : tuN (k + 1) = if k % 8 = 0 then dbl (tuN k) else tuN k := by
  have key : ∀ k, k < 52 → tuN (k + 1) = if k % 8 = 0 then dbl (tuN k) else tuN k := by decide
  exact key k hk
theorem tuN_next2 (k : Nat) (hk : k < 52) : tuN (k + 1) = if k % 8 = 0 then mul (tuN k) 2 else tuN k := by
  have key : ∀ k, k < 52 → tuN (k + 1) = if k % 8 = 0 then mul (tuN k) 2 else tuN k := by decide
  exact key k hk
theorem tuN_lt (k : Nat) (hk : k ≤ 52) : tuN k < 256 := by
  have key : ∀ k, k < 53 → tuN k < 256 := by decide
  exact key k (by omega)
/-- The four bytes that turn word 8 + k: p, the four ahead of it. -/
def twL (p : List Nat) (k : Nat) : List Nat :=
  if k % 8 = 0 then [box (p.getD 1 0) ^^^ tuN k, box (p.getD 2 0), box (p.getD 3 0), box (p.getD 0 0)]
  else if k % 8 = 4 then [box (p.getD 0 0), box (p.getD 1 0), box (p.getD 2 0), box (p.getD 3 0)] else p
def preL (l : List Nat) (k : Nat) : List Nat := [l.getD (4 * k + 28) 0, l.getD (4 * k + 29) 0, l.getD (4 * k + 30) 0, l.getD (4 * k + 31) 0]
def wordN (l t : List Nat) (k : Nat) : Nat → List Nat
  | 0 => l
  | j + 1 => wordN l t k j ++ [l.getD (4 * k + j) 0 ^^^ t.getD j 0]
def keyS (l : List Nat) (k : Nat) : List Nat := wordN l (twL (preL l k) k) k 4
def keyN (K : List Nat) : Nat → List Nat
  | 0 => K
  | k + 1 => keyS (keyN K k) k
theorem wordN_length (l t : List Nat) (k j : Nat) : (wordN l t k j).length = l.length + j := by
  induction j with
  | zero => rfl
  | succ j ih => simp [wordN, ih]; omega
theorem wordN_get (l t : List Nat) (k j i : Nat) (hi : i < l.length) : (wordN l t k j).getD i 0 = l.getD i 0 := by
  induction j with
  | zero => rfl
  | succ j ih =>
    rw [← ih]
    simp only [wordN, List.getD]
    rw [List.getElem?_append_left (by rw [wordN_length]; omega)]
theorem keyN_length (K : List Nat) (hK : K.length = 32) (k : Nat) : (keyN K k).length = 32 + 4 * k := by
  induction k with
  | zero => exact hK
  | succ k ih => show (keyS (keyN K k) k).length = _; rw [keyS, wordN_length, ih]; omega
theorem wordN_lt (l t : List Nat) (k : Nat) (hl : ∀ i, l.getD i 0 < 256) (ht : ∀ i, t.getD i 0 < 256) : ∀ j i, (wordN l t k j).getD i 0 < 256 := by
  intro j
  induction j with
  | zero => exact hl
  | succ j ih =>
    intro i
    simp only [wordN, List.getD]
    rcases Nat.lt_or_ge i (wordN l t k j).length with h | h
    · rw [List.getElem?_append_left h]; exact ih i
    · rw [List.getElem?_append_right h]
      rcases Nat.eq_zero_or_pos (i - (wordN l t k j).length) with e | e
      · rw [e]; exact Nat.xor_lt_two_pow (n := 8) (hl _) (ht _)
      · rw [List.getElem?_eq_none (by simp; omega)]; exact (by decide : (0 : Nat) < 256)
theorem box_lt (x : Nat) (hx : x < 256) : box x < 256 := boxN_lt _ _ (invN_lt x 254)
theorem getD4 (a b c d : Nat) (ha : a < 256) (hb : b < 256) (hc : c < 256) (hd : d < 256) (i : Nat) : [a, b, c, d].getD i 0 < 256 := by
  match i with
  | 0 => exact ha
  | 1 => exact hb
  | 2 => exact hc
  | 3 => exact hd
  | n + 4 => exact (by decide : (0 : Nat) < 256)
theorem twL_lt (p : List Nat) (k : Nat) (hk : k < 52) (hp : ∀ i, p.getD i 0 < 256) (i : Nat) : (twL p k).getD i 0 < 256 := by
  unfold twL
  split
  · exact getD4 _ _ _ _ (Nat.xor_lt_two_pow (n := 8) (box_lt _ (hp _)) (tuN_lt k (by omega))) (box_lt _ (hp _)) (box_lt _ (hp _)) (box_lt _ (hp _)) i
  · split
    · exact getD4 _ _ _ _ (box_lt _ (hp _)) (box_lt _ (hp _)) (box_lt _ (hp _)) (box_lt _ (hp _)) i
    · exact hp i
theorem keyN_lt (K : List Nat) (hK : ∀ i, K.getD i 0 < 256) (k : Nat) (hk : k ≤ 52) : ∀ i, (keyN K k).getD i 0 < 256 := by
  induction k with
  | zero => exact hK
  | succ k ih =>
    have h := ih (by omega)
    exact wordN_lt _ _ _ h (twL_lt _ _ (by omega) (getD4 _ _ _ _ (h _) (h _) (h _) (h _))) 4
/-- Each four bytes mixed. -/
def mixB (b : List Nat) (i : Nat) : Nat := mul (b.getD (i / 4 * 4 + (i + 0) % 4) 0) 2 ^^^ mul (b.getD (i / 4 * 4 + (i + 1) % 4) 0) 3 ^^^ b.getD (i / 4 * 4 + (i + 2) % 4) 0 ^^^ b.getD (i / 4 * 4 + (i + 3) % 4) 0
def mixL (b : List Nat) (k : Nat) : List Nat := (List.range 16).map fun i => if i < k then mixB b i else 0
/-- A list of sixteen, made place by place. -/
theorem map16_set (f : Nat → Nat) (g : Nat → Nat) (k : Nat) (hk : k < 16) :
    ((List.range 16).map fun i => if i < k then f i else g i).set k (f k) = (List.range 16).map fun i => if i < k + 1 then f i else g i := by
  apply List.ext_getElem?
  intro i
  rw [List.getElem?_set]
  simp only [List.length_map, List.length_range]
  by_cases e : k = i
  · subst e
    simp [hk]
  · rw [if_neg e]
    rcases Nat.lt_or_ge i 16 with h | h
    · simp only [List.getElem?_map, List.getElem?_range h, Option.map_some]
      congr 1
      by_cases h2 : i < k
      · rw [if_pos h2, if_pos (by omega)]
      · rw [if_neg h2, if_neg (by omega)]
    · rw [List.getElem?_eq_none (by simpa using h), List.getElem?_eq_none (by simpa using h)]
theorem mixL_length (b : List Nat) (k : Nat) : (mixL b k).length = 16 := by simp [mixL]
theorem mixL_set (b : List Nat) (k : Nat) (hk : k < 16) : (mixL b k).set k (mixB b k) = mixL b (k + 1) := map16_set _ _ k hk
theorem map16_lt (f : Nat → Nat) (hf : ∀ i, i < 16 → f i < 256) (i : Nat) : ((List.range 16).map f).getD i 0 < 256 := by
  rcases Nat.lt_or_ge i 16 with h | h
  · simp [List.getD, h, hf i h]
  · rw [List.getD, List.getElem?_eq_none (by simpa using h)]; exact (by decide : (0 : Nat) < 256)
theorem mixB_lt (b : List Nat) (hb : ∀ i, b.getD i 0 < 256) (i : Nat) : mixB b i < 256 :=
  Nat.xor_lt_two_pow (n := 8) (Nat.xor_lt_two_pow (n := 8) (Nat.xor_lt_two_pow (n := 8) (mul_lt _ _ (hb _)) (mul_lt _ _ (hb _))) (hb _)) (hb _)
theorem mixL_lt (b : List Nat) (hb : ∀ i, b.getD i 0 < 256) (k : Nat) : ∀ i, (mixL b k).getD i 0 < 256 := map16_lt _ (fun i _ => by
  split
  · exact mixB_lt b hb i
  · decide)
theorem shufL_lt (b : List Nat) (hb : ∀ i, b.getD i 0 < 256) (k : Nat) : ∀ i, (shufL b k).getD i 0 < 256 := map16_lt _ (fun i _ => by
  split
  · exact box_lt _ (hb _)
  · decide)
theorem xorL_lt (a b : List Nat) (ha : ∀ i, a.getD i 0 < 256) (hb : ∀ i, b.getD i 0 < 256) (k : Nat) : ∀ i, (xorL a b k).getD i 0 < 256 := map16_lt _ (fun i _ => by
  split
  · exact Nat.xor_lt_two_pow (n := 8) (ha _) (hb _)
  · exact ha _)
def keyL (W : List Nat) (r : Nat) : List Nat := (List.range 16).map fun i => W.getD (16 * r + i) 0
theorem keyL_length (W : List Nat) (r : Nat) : (keyL W r).length = 16 := by simp [keyL]
theorem keyL_get (W : List Nat) (r i : Nat) (hi : i < 16) : (keyL W r).getD i 0 = W.getD (16 * r + i) 0 := by simp [keyL, List.getD, hi]
theorem keyL_lt (W : List Nat) (hW : ∀ i, W.getD i 0 < 256) (r : Nat) : ∀ i, (keyL W r).getD i 0 < 256 := map16_lt _ (fun i _ => hW _)
/-- What a round makes of a block ahead of its key. -/
def preR (s : List Nat) (r : Nat) : List Nat := if r < 14 then mixL (shufL s 16) 16 else shufL s 16
def rndN (W b : List Nat) : Nat → List Nat
  | 0 => xorL b (keyL W 0) 16
  | r + 1 => xorL (preR (rndN W b r) (r + 1)) (keyL W (r + 1)) 16
def blockL (W b : List Nat) : List Nat := rndN W b 14
theorem preR_length (s : List Nat) (r : Nat) : (preR s r).length = 16 := by
  unfold preR; split
  · exact mixL_length _ _
  · exact shufL_length _ _
theorem preR_lt (s : List Nat) (hs : ∀ i, s.getD i 0 < 256) (r : Nat) : ∀ i, (preR s r).getD i 0 < 256 := by
  unfold preR; split
  · exact mixL_lt _ (shufL_lt _ hs 16) 16
  · exact shufL_lt _ hs 16
theorem rndN_length (W b : List Nat) (r : Nat) : (rndN W b r).length = 16 := by cases r <;> exact xorL_length _ _ _
theorem rndN_lt (W b : List Nat) (hW : ∀ i, W.getD i 0 < 256) (hb : ∀ i, b.getD i 0 < 256) (r : Nat) : ∀ i, (rndN W b r).getD i 0 < 256 := by
  induction r with
  | zero => exact xorL_lt _ _ hb (keyL_lt W hW 0) 16
  | succ r ih => exact xorL_lt _ _ (preR_lt _ ih _) (keyL_lt W hW _) 16
def ivN (iv : List Nat) : Nat → List Nat
  | 0 => iv
  | n + 1 => nextL (ivN iv n) 16
theorem set_lt (l : List Nat) (hl : ∀ i, l.getD i 0 < 256) (j y : Nat) (hy : y < 256) (i : Nat) : (l.set j y).getD i 0 < 256 := by
  simp only [List.getD, List.getElem?_set]
  by_cases e : j = i
  · rw [if_pos e]
    split
    · exact hy
    · exact (by decide : (0 : Nat) < 256)
  · rw [if_neg e]; exact hl i
theorem nextL_lt (k : Nat) : ∀ l : List Nat, (∀ i, l.getD i 0 < 256) → ∀ i, (nextL l k).getD i 0 < 256 := by
  induction k with
  | zero => intro l h; exact h
  | succ k ih =>
    intro l h
    simp only [nextL]
    split
    · exact ih _ (set_lt l h k 0 (by decide))
    · exact set_lt l h k _ (Nat.mod_lt _ (by decide))
theorem ivN_length (iv : List Nat) (n : Nat) : (ivN iv n).length = iv.length := by
  induction n with
  | zero => rfl
  | succ n ih => show (nextL _ _).length = _; rw [nextL_length, ih]
theorem ivN_lt (iv : List Nat) (h : ∀ i, iv.getD i 0 < 256) (n : Nat) : ∀ i, (ivN iv n).getD i 0 < 256 := by
  induction n with
  | zero => exact h
  | succ n ih => exact nextL_lt _ _ ih
/-- What turns byte i of a text. -/
def padB (W iv : List Nat) (i : Nat) : Nat := (blockL W (ivN iv (i / 16))).getD (i % 16) 0
theorem padB_lt (W iv : List Nat) (hW : ∀ i, W.getD i 0 < 256) (h : ∀ i, iv.getD i 0 < 256) (i : Nat) : padB W iv i < 256 := rndN_lt W _ hW (ivN_lt iv h _) 14 _
/-- A text turned, so many bytes of it. -/
def ctrL (W iv : List Nat) (s : List UInt8) (k : Nat) : List UInt8 := (List.range s.length).map fun i => if i < k then s.getD i 0 ^^^ (padB W iv i).toUInt8 else s.getD i 0
theorem ctrL_length (W iv : List Nat) (s : List UInt8) (k : Nat) : (ctrL W iv s k).length = s.length := by simp [ctrL]
theorem ctrL_zero (W iv : List Nat) (s : List UInt8) : ctrL W iv s 0 = s := by
  apply List.ext_getElem?
  intro i
  rcases Nat.lt_or_ge i s.length with h | h
  · simp [ctrL, h, List.getD]
  · rw [List.getElem?_eq_none (by rw [ctrL_length]; exact h), List.getElem?_eq_none h]
theorem ctrL_get (W iv : List Nat) (s : List UInt8) (k i : Nat) (hi : i < s.length) : (ctrL W iv s k).getD i 0 = if i < k then s.getD i 0 ^^^ (padB W iv i).toUInt8 else s.getD i 0 := by
  simp [ctrL, List.getD, hi]
theorem ctrL_set (W iv : List Nat) (s : List UInt8) (k : Nat) (hk : k < s.length) : (ctrL W iv s k).set k (s.getD k 0 ^^^ (padB W iv k).toUInt8) = ctrL W iv s (k + 1) := by
  apply List.ext_getElem?
  intro i
  rw [List.getElem?_set]
  simp only [ctrL, List.length_map, List.length_range]
  by_cases e : k = i
  · subst e
    simp [hk]
  · rw [if_neg e]
    rcases Nat.lt_or_ge i s.length with h | h
    · simp only [List.getElem?_map, List.getElem?_range h, Option.map_some]
      congr 1
      by_cases h2 : i < k
      · rw [if_pos h2, if_pos (by omega)]
      · rw [if_neg h2, if_neg (by omega)]
    · rw [List.getElem?_eq_none (by simpa using h), List.getElem?_eq_none (by simpa using h)]
theorem ctr_back (W iv : List Nat) (s : List UInt8) : ctrL W iv (ctrL W iv s s.length) s.length = s := by
  apply List.ext_getElem?
  intro i
  rcases Nat.lt_or_ge i s.length with h | h
  · have hg := ctrL_get W iv s s.length i h
    rw [if_pos h] at hg
    simp only [ctrL, List.getElem?_map, List.length_map, List.length_range, List.getElem?_range h, Option.map_some, if_pos h]
    have hg2 : ((List.map (fun i => if i < s.length then s.getD i 0 ^^^ (padB W iv i).toUInt8 else s.getD i 0) (List.range s.length)).getD i 0) = s.getD i 0 ^^^ (padB W iv i).toUInt8 := hg
    rw [hg2, UInt8.xor_assoc, UInt8.xor_self, UInt8.xor_zero]
    simp [List.getD, h]
  · rw [List.getElem?_eq_none (by rw [ctrL_length, ctrL_length]; exact h), List.getElem?_eq_none h]
end Go.Proofs.Ytmcenocmilhekaa
