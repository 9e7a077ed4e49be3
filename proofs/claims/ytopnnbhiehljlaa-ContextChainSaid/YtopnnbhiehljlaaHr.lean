/- A row of bytes that may begin in the midst of its block: appended to, cut at its head. -/
import Derived.Test.YtopnnbhiehljlaaAx
import Derived.ArgAppend
namespace Go.Proofs.Ytopnnbhiehljlaa
set_option linter.unusedVariables false
open Go.RowKit Go.My

structure HrX (w : World) (v : Value) (bs : List UInt8) (g off cap : Nat) (cur : Array Value) : Prop where
  val : v = .slice (some ⟨g, off, none⟩) bs.length cap
  blk : w.heap[g]? = some (.cells cur 5 (0, 0))
  le : bs.length ≤ cap
  room : off + cap ≤ cur.size
  is : ∀ j, j < bs.length → cur[off + j]? = some (.int .u8 ((bs.getD j 0).toNat : Int))
/-- v is a row of these bytes. -/
def Hr (w : World) (v : Value) (bs : List UInt8) : Prop := (v = .slice none 0 0 ∧ bs = []) ∨ ∃ g off cap cur, HrX w v bs g off cap cur
theorem Hr.keep {w w' : World} {v : Value} {bs : List UInt8} {S : Nat → Prop} (h : Hr w v bs) (hf : Fr S w w') (hs : ∀ k, v.ownBlock = some k → ¬ S k) : Hr w' v bs := by
  rcases h with h | ⟨g, off, cap, cur, h⟩
  · exact .inl h
  · exact .inr ⟨g, off, cap, cur, ⟨h.val, hf.keep h.blk (hs g (by rw [h.val]; rfl)), h.le, h.room, h.is⟩⟩
theorem Hr.lt {w : World} {v : Value} {bs : List UInt8} (h : Hr w v bs) {k : Nat} (hk : v.ownBlock = some k) : ∃ cur, w.heap[k]? = some (.cells cur 5 (0, 0)) := by
  rcases h with ⟨rfl, _⟩ | ⟨g, off, cap, cur, h⟩
  · cases hk
  · rw [h.val] at hk
    obtain rfl : g = k := by simpa [Value.ownBlock] using hk
    exact ⟨cur, h.blk⟩
theorem Hr.any {w : World} {v : Value} {bs : List UInt8} (h : Hr w v bs) (n : Nat) (hn : bs.length = n) : ∃ a cap, v = .slice a n cap := by
  rcases h with ⟨rfl, rfl⟩ | ⟨g, off, cap, cur, h⟩
  · subst hn; exact ⟨_, _, rfl⟩
  · exact ⟨_, _, by rw [h.val, hn]⟩
theorem Hr.of_own {w : World} {v : Value} {n : Nat} {bs : List UInt8} (h : w.ownsRow 0 5 1 v n (bytesV bs)) : Hr w v bs := by
  have hl : bs.length = n := by have := h.1; rw [bytesV_length] at this; omega
  rcases h.2 with ⟨h1, h2⟩ | ⟨g, cap, cur, rfl, hb, hg, hnc, _, hcs, ht⟩
  · exact .inl ⟨h1, List.eq_nil_of_length_eq_zero (by omega)⟩
  · refine .inr ⟨g, 0, cap, cur, ⟨by rw [hl], hg, by omega, by omega, fun j hj => ?_⟩⟩
    have e : (cur.toList.take (n * 1))[j]? = (bytesV bs)[j]? := by rw [ht]
    rw [List.getElem?_take_of_lt (by omega)] at e
    rw [Nat.zero_add, ← Array.getElem?_toList, e]
    simp [bytesV, List.getD, hj]
/-- The byte at a place. -/
theorem HrX.cell {w : World} {v : Value} {bs : List UInt8} {g off cap : Nat} {cur : Array Value} (h : HrX w v bs g off cap cur) {j : Nat} (hj : j < bs.length) : w.cell? ⟨g, off + j, none⟩ = some (.int .u8 ((bs.getD j 0).toNat : Int)) := by
  rw [cell_of h.blk]; exact h.is j hj
/-- So many bytes of its head are left out. -/
theorem HrX.cut {w : World} {v : Value} {bs : List UInt8} {g off cap : Nat} {cur : Array Value} (h : HrX w v bs g off cap cur) (k : Nat) (hk : k ≤ bs.length) : HrX w (.slice (some ⟨g, off + k, none⟩) (bs.length - k) (cap - k)) (bs.drop k) g (off + k) (cap - k) cur := by
  have hle := h.le
  have hroom := h.room
  refine ⟨by rw [List.length_drop], h.blk, by rw [List.length_drop]; omega, by omega, fun j hj => ?_⟩
  rw [List.length_drop] at hj
  rw [Nat.add_assoc, h.is (k + j) (by omega)]
  simp [List.getD, List.getElem?_drop]
theorem HrX.cut_end {w : World} {v : Value} {bs : List UInt8} {g off cap : Nat} {cur : Array Value} (h : HrX w v bs g off cap cur) (hk : bs.length = cap) : HrX w (.slice (some ⟨g, off, none⟩) 0 0) [] g off 0 cur :=
  ⟨rfl, h.blk, Nat.le_refl _, by have := h.room; omega, fun j hj => absurd hj (Nat.not_lt_zero _)⟩
set_option maxRecDepth 100000 in
/-- A byte is appended. -/
theorem Hr.app {w : World} {v : Value} {bs : List UInt8} (h : Hr w v bs) (hn : bs.length ≤ 1000000000) (b : UInt8) (nb : Nat) (hnb : w.heap[nb]? = some (.cells #[.int .u8 (b.toNat : Int)] 5 (0, 0))) (ty : TypeId) :
    ∃ v' w', (Builtin.append_ #[39, 39] ty #[v, .slice (some ⟨nb, 0, none⟩) 1 1]).run Try.prog w = .ok v' w' ∧ Hr w' v' (bs ++ [b]) ∧ Fr (fun k => v.ownBlock = some k) w w' ∧ ∀ k, v'.ownBlock = some k → v.ownBlock = some k ∨ w.heap.size ≤ k := by
  obtain ⟨i0, hi, hz0, hz1, hz2⟩ := info_parts info5
  have hnews : ∀ j u, ([.int .u8 (b.toNat : Int)] : List Value)[j]? = some u → w.cell? ((⟨nb, 0, none⟩ : Addr).add j) = some u := by
    intro j u hj
    rw [add_plain0, cell_of hnb]
    simpa using hj
  have h1 : ∀ u ∈ [Value.int .u8 (b.toNat : Int)], u.oneCell' = true := by intro u hu; rw [List.mem_singleton.1 hu]; rfl
  rcases h with ⟨rfl, rfl⟩ | ⟨g, off, cap, cur, h⟩
  · obtain ⟨g, cap, w', hr, hown, hgrow, hat, hlt, _⟩ := run_append_my (P := Try.prog) w 39 ty 0 5 i0 (.int .u8 0) 1 1 Try.underlying39 hi hz0 hz1 hz2 rfl (by decide) (.slice none 0 0) 0 [] ⟨rfl, .inl ⟨rfl, rfl⟩⟩ ⟨nb, 0, none⟩ 1 1 [.int .u8 (b.toNat : Int)] rfl hnews h1 (by decide) (by decide) (by decide) (Nat.zero_le _) _ rfl
    refine ⟨_, w', hr, Hr.of_own (n := 1) (by simpa [bytesV] using hown), (Fr.refl _ w).grown hgrow (fun k hk => .inl hk), fun k hk => ?_⟩
    rcases hat with h2 | h2
    · cases h2
    · have : g = k := by simpa [Value.ownBlock] using hk
      exact .inr (by omega)
  · have hv := h.val
    subst hv
    by_cases hroom : bs.length + 1 ≤ cap
    · have hr := run_append_room_cells (P := Try.prog) w 39 ty 5 i0 Try.underlying39 hi g off bs.length cap ⟨nb, 0, none⟩ 1 1 [.int .u8 (b.toNat : Int)] (by rw [hz1]; rfl) hnews h1 hroom
        (fun j hj => by
          have : j = 0 := by simpa using hj
          subst this
          rw [cell_of h.blk, hz1, Nat.mul_one, Nat.add_zero, Array.getElem?_eq_getElem (by have := h.room; omega)]
          rfl)
        (fun j hj => free_of h.blk _)
      rw [hz1, Nat.mul_one] at hr
      refine ⟨_, _, hr, .inr ⟨g, off, cap, cur.setIfInBounds (off + bs.length) (.int .u8 (b.toNat : Int)), ⟨by simp, ?_, by simpa using hroom, by simpa using h.room, fun j hj => ?_⟩⟩, ?_, fun k hk => .inl hk⟩
      · have := block_setCell (off := off + bs.length) h.blk (.int .u8 (b.toNat : Int))
        simpa [World.setCells] using this
      · rw [Array.getElem?_setIfInBounds]
        by_cases e : off + bs.length = off + j
        · have e2 : bs.length = j := by omega
          subst e2
          rw [if_pos rfl, if_pos (by have := h.room; omega)]
          simp [List.getD]
        · rw [if_neg e, h.is j (by simp at hj; omega)]
          congr 3
          simp only [List.getD]
          rw [List.getElem?_append_left (by simp at hj; omega)]
      · have := ((Fr.refl (fun k => (Value.slice (some ⟨g, off, none⟩) bs.length cap).ownBlock = some k) w).setCell ⟨g, off + bs.length, none⟩ (.int .u8 (b.toNat : Int)) (.inl rfl))
        simpa [World.setCells] using this
    · have hr := run_append_grow (P := Try.prog) w 39 ty 5 i0 (.int .u8 0) Try.underlying39 hi hz0 ⟨g, off, none⟩ bs.length cap (bytesV bs) (by rw [hz1, bytesV_length]; omega)
        (fun j u hj => by
          have hjl : j < bs.length := by
            have := (List.getElem?_eq_some_iff.1 hj).1
            rwa [bytesV_length] at this
          have e : (⟨g, off, none⟩ : Addr).add j = ⟨g, off + j, none⟩ := by unfold Addr.add; split <;> simp_all
          rw [e, h.cell hjl, ← hj]
          simp [bytesV, List.getD, hjl])
        ⟨nb, 0, none⟩ 1 1 [.int .u8 (b.toNat : Int)] (by rw [hz1]; rfl) hnews (by omega) (by omega) (growslice_fits (by omega) (by rw [hz2]; have := h.le; omega))
      have hge := grownCap_ge w (bs.length + 1) cap 5
      refine ⟨_, _, hr, .inr ⟨_, 0, grownCap w (bs.length + 1) cap 5, _, ⟨by simp, heap_alloc_new w.drew _, by simpa using hge, ?_, fun j hj => ?_⟩⟩, ((Fr.refl _ w).drew.alloc _), fun k hk => ?_⟩
      · simp only [Array.size_append, List.size_toArray, size_zeroCells, bytesV_length, List.length_singleton]
        simp [Value.cells]
        omega
      · simp only [List.length_append, List.length_singleton] at hj
        rw [Nat.zero_add, Array.getElem?_append_left (by simp [bytesV]; omega)]
        by_cases hj2 : j < bs.length
        · rw [Array.getElem?_append_left (by simpa [bytesV] using hj2)]
          simp [bytesV, List.getD, hj2, List.getElem?_append_left]
        · obtain rfl : j = bs.length := by omega
          rw [Array.getElem?_append_right (by simp [bytesV])]
          simp [bytesV]
      · have : w.heap.size = k := by simpa [Value.ownBlock] using hk
        exact .inr (by omega)
end Go.Proofs.Ytopnnbhiehljlaa
