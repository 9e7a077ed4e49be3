/- Walks of layer 24 (hmac): a key's bytes turned by a byte; the sum under a key; whether two texts are the same. -/
import Derived.Test.YtmcenocmilhekaaDoorSh5
import Derived.Test.YtmcenocmilhekaaDoorOps2
import Derived.Lib.BufferWrite
import Derived.Laws.MakeOwn
namespace Go.Proofs.YtmcenocmilhekaaDoor
set_option linter.unusedVariables false
open Go.RowKit Go.My Go.Sha

/-- A key's 64 bytes, each turned by a byte. -/
def keyB (key : List UInt8) (i : Nat) : UInt8 := key.getD i 0
def turnL (key : List UInt8) (by_ : UInt8) (k : Nat) : List UInt8 := (List.range 64).map fun i => if i < k then keyB key i ^^^ by_ else keyB key i
theorem turnL_length (key : List UInt8) (b : UInt8) (k : Nat) : (turnL key b k).length = 64 := by simp [turnL]
theorem turnL_set (key : List UInt8) (b : UInt8) (k : Nat) (hk : k < 64) : (turnL key b k).set k (keyB key k ^^^ b) = turnL key b (k + 1) := by
  apply List.ext_getElem?
  intro i
  rw [List.getElem?_set]
  simp only [turnL, List.length_map, List.length_range]
  by_cases e : k = i
  · subst e
    simp [hk]
  · rw [if_neg e]
    rcases Nat.lt_or_ge i 64 with h | h
    · simp only [List.getElem?_map, List.getElem?_range h, Option.map_some]
      congr 1
      by_cases h2 : i < k
      · rw [if_pos h2, if_pos (by omega)]
      · rw [if_neg h2, if_neg (by omega)]
    · rw [List.getElem?_eq_none (by simpa using h), List.getElem?_eq_none (by simpa using h)]
theorem xor8 (a b : UInt8) : Go.bits .xor .u8 (a.toNat : Int) (b.toNat : Int) = ((a ^^^ b).toNat : Int) := by
  have ha := a.toNat_lt
  have hb := b.toNat_lt
  have ha' : a.toNat % 2 ^ 8 = a.toNat := Nat.mod_eq_of_lt ha
  have hb' : b.toNat % 2 ^ 8 = b.toNat := Nat.mod_eq_of_lt hb
  show IntKind.wrap .u8 ((BitVec.ofInt 8 (a.toNat : Int) ^^^ BitVec.ofInt 8 (b.toNat : Int)).toNat : Int) = _
  simp only [BitVec.ofInt_natCast, BitVec.toNat_xor, BitVec.toNat_ofNat, ha', hb']
  have h := Nat.xor_lt_two_pow (n := 8) ha hb
  rw [IntKind.wrap_u8, UInt8.toNat_xor]
  omega

theorem turnL_zero (key : List UInt8) (b : UInt8) (h : key.length ≤ 64) : turnL key b 0 = key ++ List.replicate (64 - key.length) 0 := by
  apply List.ext_getElem?
  intro i
  rcases Nat.lt_or_ge i 64 with h1 | h1
  · simp only [turnL, List.getElem?_map, List.getElem?_range h1, Option.map_some, Nat.not_lt_zero, if_false, keyB, List.getD]
    rcases Nat.lt_or_ge i key.length with h2 | h2
    · rw [List.getElem?_append_left h2, List.getElem?_eq_getElem h2]; rfl
    · rw [List.getElem?_append_right h2, List.getElem?_eq_none h2, List.getElem?_replicate, if_pos (by omega)]; rfl
  · rw [List.getElem?_eq_none (by simpa [turnL] using h1), List.getElem?_eq_none (by simp; omega)]
theorem made_bytes (n : Nat) : madeCells (Value.int .u8 0).cells (n * 1) = (bytesV (List.replicate n 0)).toArray := by
  rw [Nat.mul_one]
  apply Array.ext
  · simp [madeCells, bytesV]
  · intro i h1 h2
    simp [madeCells, bytesV, Value.cells, Nat.mod_one]
theorem make_bytes (L : Nat) (hL : L ≤ 65536) (w : World) : (Instr.makeSlice 33 (.int .i64 (L : Int)) (.int .i64 (L : Int))).run Tryd.prog w = .ok (.slice (some ⟨w.heap.size, 0, none⟩) L L) (w.alloc (.cells (bytesV (List.replicate L 0)).toArray 5)) := by
  obtain ⟨i0, hi, hz0, hz1, hz2⟩ := info_parts infoB
  have h := run_make (P := Tryd.prog) w 33 5 i0 (.int .u8 0) Tryd.underlying33 hi hz0 .i64 .i64 L L (by omega) (by omega) (by rw [hz2]; omega) (by omega)
  rw [h, hz1]
  simp only [Int.toNat_natCast]
  rw [made_bytes]
theorem bytesA_set (l : List UInt8) (i : Nat) (b : UInt8) : ((bytesV l).toArray).setIfInBounds i (.int .u8 (b.toNat : Int)) = (bytesV (l.set i b)).toArray := by
  simp [bytesV, List.map_set]

set_option maxHeartbeats 2000000 in
set_option maxRecDepth 100000 in
theorem hturned_is (key : ByteArray) (hk : key.size ≤ 64) (b : UInt8) (w : World) :
    Calls Tryd.prog 23 #[.string key, .int .u8 (b.toNat : Int)] w fun e w' => e = .returned (.string ⟨(turnL key.data.toList b 64).toArray⟩) ∧ Fr (fun _ => False) w w' := by
  have hmk : (Instr.makeSlice 33 (.int .i64 64) (.int .i64 64)).run Tryd.prog w = .ok (.slice (some ⟨w.heap.size, 0, none⟩) 64 64) (w.alloc (.cells (bytesV (List.replicate 64 0)).toArray 5)) := make_bytes 64 (by decide) w
  obtain ⟨W1, hW1⟩ : ∃ W1, w.alloc (.cells (bytesV (List.replicate 64 0)).toArray 5) = W1 := ⟨_, rfl⟩
  obtain ⟨g, hg⟩ : ∃ g, w.heap.size = g := ⟨_, rfl⟩
  have hb : W1.heap[g]? = some (.cells (bytesV (List.replicate 64 0)).toArray 5 (0, 0)) := by rw [← hW1, ← hg]; exact heap_alloc_new w _
  have hf : Fr (fun _ => False) w W1 := by rw [← hW1]; exact (Fr.refl _ _).alloc _
  have hcp := Lib.run_copy_row_string (P := Tryd.prog) W1 33 9 3 5 g 0 64 64 key _ _ Tryd.underlying33 (by kernel_rfl) hb hk (by simp [bytesV]; omega)
  obtain ⟨l, hl⟩ : ∃ l, key.data.toList = l := ⟨_, rfl⟩
  have hks : key.size = l.length := by rw [← hl]; simp
  have hrow : ((bytesV (List.replicate 64 0)).toArray.toList.take 0 ++ Lib.byteCells key.data.toList ++ (bytesV (List.replicate 64 0)).toArray.toList.drop (0 + key.size)).toArray = (bytesV (turnL l b 0)).toArray := by
    rw [turnL_zero l b (by omega), bytesV_append, hl, hks]
    have e : ∀ n, bytesV (List.replicate n 0) = List.replicate n (Value.int .u8 0) := fun n => by simp [bytesV]
    rw [e, e]
    generalize hn : 64 = n
    simp [bytesV, Lib.byteCells]
  rw [hrow] at hcp
  have hb2 := block_setRow (cs := (bytesV (turnL l b 0)).toArray) hb
  have hf2 := fr_setRow hf g (bytesV (turnL l b 0)).toArray (.inr (by omega))
  obtain ⟨W2, hW2⟩ : ∃ W2, W1.setRow g (bytesV (turnL l b 0)).toArray = W2 := ⟨_, rfl⟩
  rw [hW1, hg] at hmk
  rw [hW2] at hcp hb2 hf2
  have hcp2 : (Builtin.copy_ #[33, 9] 3 #[.slice (some ⟨g, 0, none⟩) 64 64, .string key]).run Tryd.prog W1 = .ok (.int .i64 (key.size : Int)) W2 := hcp
  have Hmk := Lib.hid hmk
  have Hcp := Lib.hid hcp2
  have HB := Lib.hid hb2
  have HF := Lib.hid hf2
  have HL : Hid (w.heap.size ≤ g) := by show w.heap.size ≤ g; omega
  rw [hl]
  clear hmk hW1 hg hb hf hcp hcp2 hrow hb2 hf2 hW2 hks hl hk
  have hmk := Hmk.out
  have hcp := Hcp.out
  go_enter Tryd.func23, Tryd.ntmps23
  go_wp2
  clear hmk hcp Hmk Hcp
  go_loopw [6, 13] (fun _ v13 wr => ∃ k : Nat, k ≤ 64 ∧ v13 = .int .i64 (k : Int) ∧ Hid (Fr (fun _ => False) w wr) ∧ Hid (wr.heap[g]? = some (.cells (bytesV (turnL l b k)).toArray 5 (0, 0)))) (fun _ v13 _ => 64 - (intOf v13).toNat)
  case atStart => exact ⟨0, by omega, rfl, HF, HB⟩
  case round =>
    obtain ⟨k, hk, rfl, KF, KB⟩ := hrel
    clear HF HB
    by_cases hlt : k < 64
    · have hlI : (k : Int) < 64 := by omega
      have hk0 : (0 : Int) ≤ (k : Int) := by omega
      have c0 : wr.cell? ⟨g, k, none⟩ = some (.int .u8 ((keyB l k).toNat : Int)) := by
        rw [cell_of KB.out k]
        have : k < (turnL l b k).length := by rw [turnL_length]; exact hlt
        simp [bytesV, turnL, hlt]
      have f0 := free_of KB.out k
      have hx := xor8 (keyB l k) b
      have hset := block_setCell KB.out (.int .u8 ((keyB l k ^^^ b).toNat : Int)) (off := k)
      rw [bytesA_set, turnL_set l b k hlt] at hset
      have hfr := KF.out.setCell ⟨g, k, none⟩ (.int .u8 ((keyB l k ^^^ b).toNat : Int)) (.inr HL.out)
      have HX := Lib.hid hx
      have IB := Lib.hid hset
      have IF := Lib.hid hfr
      clear hx hset hfr
      generalize keyB l k ^^^ b = xb at *
      generalize keyB l k = kb at *
      go_wp2
      rw [HX.out]
      go_roundw
      case rel => exact ⟨k + 1, by omega, by go_num, IF, IB⟩
      case measure => simp [intOf]; omega
    · obtain rfl : k = 64 := by omega
      have hbr : Br wr 0 (.slice (some ⟨g, 0, none⟩) 64 64) (turnL l b 64) :=
        ⟨g, 64, _, (0, 0), ⟨by rw [turnL_length], KB.out, Nat.zero_le _, by rw [turnL_length]; exact Nat.le_refl _, by simp [bytesV, turnL_length], fun j hj => by
          have hj2 : j < (turnL l b 64).length := hj
          simp [bytesV, List.getD, hj2], fun j _ => by simp⟩⟩
      have Htx := Lib.hid hbr.text
      clear hbr hlt hk
      go_wp2_with (refine wpList_cv 33 9 _ rfl rfl _ _ rfl Htx.out ?_)
      go_ret
      exact ⟨rfl, KF.out⟩
end Go.Proofs.YtmcenocmilhekaaDoor
