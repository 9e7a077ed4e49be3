/- Walks of layer 25 (aes): what a cipher's block holds. -/
import Derived.Test.YtmcenocmilhekaaAe8
namespace Go.Proofs.Ytmcenocmilhekaa
set_option linter.unusedVariables false
open Go.RowKit Go.My Go.Aes

/-- A cipher's block: its boxes, so many bytes of the round keys. -/
structure CipL (w : World) (c : Nat) (l L : List Nat) : Prop where
  blk : w.heap[c]? = some (.cells (u8s L) 41 (0, 0))
  len : L.length = 496
  box : ∀ x, x < 256 → L.getD x 0 = box x
  key : ∀ i, i < l.length → L.getD (256 + i) 0 = l.getD i 0
  le : l.length ≤ 240
def Cip (w : World) (c : Nat) (l : List Nat) : Prop := ∃ L, CipL w c l L
theorem Cip.keep {w w' : World} {c : Nat} {l : List Nat} {S : Nat → Prop} (h : Cip w c l) (hf : Fr S w w') (hS : ¬ S c) : Cip w' c l := by
  obtain ⟨L, h⟩ := h
  exact ⟨L, hf.keep h.blk hS, h.len, h.box, h.key, h.le⟩
theorem Cip.cell {w : World} {c : Nat} {l : List Nat} (h : Cip w c l) (i : Nat) (hi : i < l.length) (v : Nat) (hv : l.getD i 0 = v) : w.cell? ⟨c, 256 + i, none⟩ = some (.int .u8 (v : Int)) := by
  obtain ⟨L, h⟩ := h
  rw [cell_of h.blk, u8s_get L _ (by have := h.len; have := h.le; omega), h.key i hi, hv]
theorem Cip.boxes {w : World} {c : Nat} {l : List Nat} (h : Cip w c l) : BoxAt w c := by
  obtain ⟨L, h⟩ := h
  intro x hx
  rw [cell_of h.blk, u8s_get L _ (by have := h.len; omega), h.box x hx]
theorem Cip.free {w : World} {c : Nat} {l : List Nat} (h : Cip w c l) (i : Nat) : w.frozen? ⟨c, i, none⟩ = false := by
  obtain ⟨L, h⟩ := h
  exact free_of h.blk i
theorem Cip.there {w : World} {c : Nat} {l : List Nat} (h : Cip w c l) (i : Nat) (hi : i < 240) : ∃ v, w.cell? ⟨c, 256 + i, none⟩ = some (.int .u8 (v : Nat)) := by
  obtain ⟨L, h⟩ := h
  exact ⟨_, by rw [cell_of h.blk, u8s_get L _ (by have := h.len; omega)]⟩
theorem Cip.add {w : World} {c : Nat} {l : List Nat} (h : Cip w c l) (hl : l.length < 240) (i : Nat) (hi : l.length = i) (x : Nat) : Cip (w.setCell ⟨c, 256 + i, none⟩ (.int .u8 (x : Int))) c (l ++ [x]) := by
  obtain ⟨L, h⟩ := h
  subst hi
  have hb := block_setCell h.blk (.int .u8 (x : Int)) (off := 256 + l.length)
  rw [u8s_set] at hb
  refine ⟨_, hb, by rw [List.length_set, h.len], fun y hy => ?_, fun j hj => ?_, by simp; omega⟩
  · rw [← h.box y hy]
    simp only [List.getD]
    rw [List.getElem?_set_ne (by omega)]
  · simp only [List.length_append, List.length_singleton] at hj
    have hlen := h.len
    by_cases e : j = l.length
    · subst e
      simp [List.getD, List.getElem?_set, hlen]
      rw [if_pos (by omega)]
      rfl
    · have := h.key j (by omega)
      simp only [List.getD] at this ⊢
      rw [List.getElem?_set_ne (by omega), List.getElem?_append_left (by omega)]
      exact this
theorem Cip.lt {w : World} {c : Nat} {l : List Nat} (h : Cip w c l) : c < w.heap.size := by
  obtain ⟨L, h⟩ := h
  exact lt_of_block h.blk

/-- The place of a round key's byte: nothing turns. -/
theorem at_same (c i : Nat) (hi : i < 240) (w : World) : Calls Try.prog 23 #[.pointer (some ⟨c, 0, none⟩), .int .i64 (i : Int)] w fun e w' => e = .returned (.pointer (some ⟨c, 256 + i, none⟩)) ∧ w' = w := by
  obtain ⟨q, hq⟩ : ∃ q, i / 16 = q := ⟨_, rfl⟩
  obtain ⟨r, hr⟩ : ∃ r, i % 16 = r := ⟨_, rfl⟩
  have hqI : (i : Int) / 16 = (q : Int) := by omega
  have hrI : (i : Int) % 16 = (r : Int) := by omega
  have hq15 : (q : Int) < 15 := by omega
  have hr16 : (r : Int) < 16 := by omega
  have hq0 : (0 : Int) ≤ (q : Int) := by omega
  have hr0 : (0 : Int) ≤ (r : Int) := by omega
  have he : i = q * 16 + r := by omega
  have He := Lib.hid he
  clear hq hr he
  go_enter Try.func23, Try.ntmps23
  go_wp2
  go_ret
  have e : 256 + i = 256 + q * 16 + r := by have := He.out; omega
  exact ⟨by rw [e]; rfl, rfl⟩
/-- A key's bytes. -/
def keyB (key : ByteArray) : List Nat := key.data.toList.map fun b => b.toNat
theorem keyB_length (key : ByteArray) : (keyB key).length = key.size := by simp [keyB]
theorem keyB_lt (key : ByteArray) (i : Nat) : (keyB key).getD i 0 < 256 := by
  unfold keyB
  rcases Nat.lt_or_ge i key.data.toList.length with h | h
  · rw [List.getD, List.getElem?_map, List.getElem?_eq_getElem h]
    exact (key.data.toList[i]).toNat_lt
  · rw [List.getD, List.getElem?_eq_none (by simpa using h)]; exact (by decide : (0 : Nat) < 256)

theorem keyB_take (key : ByteArray) (i : Nat) (hi : i < key.size) (b : Nat) (hb : (key[i]'hi).toNat = b) : (keyB key).take i ++ [b] = (keyB key).take (i + 1) := by
  have h : i < (keyB key).length := by rw [keyB_length]; exact hi
  rw [List.take_succ_eq_append_getElem h, ← hb]
  simp [keyB]
  rfl

def preN (l : List Nat) (k j : Nat) : List Nat := (List.range 4).map fun i => if i < j then l.getD (4 * k + 28 + i) 0 else 0
theorem preN_four (l : List Nat) (k : Nat) : preN l k 4 = preL l k := by simp [preN, preL, List.range, List.range.loop]
theorem preN_length (l : List Nat) (k j : Nat) : (preN l k j).length = 4 := by simp [preN]
theorem preN_set (l : List Nat) (k j : Nat) (hj : j < 4) : (preN l k j).set j (l.getD (4 * k + 28 + j) 0) = preN l k (j + 1) := by
  apply List.ext_getElem?
  intro i
  rw [List.getElem?_set]
  simp only [preN, List.length_map, List.length_range]
  by_cases e : j = i
  · subst e
    simp [hj]
  · rw [if_neg e]
    rcases Nat.lt_or_ge i 4 with h | h
    · simp only [List.getElem?_map, List.getElem?_range h, Option.map_some]
      congr 1
      by_cases h2 : i < j
      · rw [if_pos h2, if_pos (by omega)]
      · rw [if_neg h2, if_neg (by omega)]
    · rw [List.getElem?_eq_none (by simpa using h), List.getElem?_eq_none (by simpa using h)]

end Go.Proofs.Ytmcenocmilhekaa
