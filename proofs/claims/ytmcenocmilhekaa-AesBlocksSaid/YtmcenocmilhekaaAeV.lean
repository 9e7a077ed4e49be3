/- Walks of layer 25's law: a key of any text; the standard's example. -/
import Derived.Test.YtmcenocmilhekaaAeN
import Derived.Test.YtmcenocmilhekaaAeT
import Derived.Test.YtmcenocmilhekaaAeQ
import Derived.Lib.BufferWrite
import Derived.Laws.MakeOwn
namespace Go.Proofs.Ytmcenocmilhekaa
set_option linter.unusedVariables false
open Go.RowKit Go.My Go.Aes

theorem made_bytes (n : Nat) : madeCells (Value.int .u8 0).cells (n * 1) = (bytesV (List.replicate n 0)).toArray := by
  rw [Nat.mul_one]
  apply Array.ext
  · simp [madeCells, bytesV]
  · intro i h1 h2
    simp [madeCells, bytesV, Value.cells, Nat.mod_one]
theorem make_bytes (L : Nat) (hL : L ≤ 65536) (w : World) : (Instr.makeSlice 36 (.int .i64 (L : Int)) (.int .i64 (L : Int))).run Try.prog w = .ok (.slice (some ⟨w.heap.size, 0, none⟩) L L) (w.alloc (.cells (bytesV (List.replicate L 0)).toArray 5)) := by
  obtain ⟨i0, hi, hz0, hz1, hz2⟩ := info_parts infoB
  have h := run_make (P := Try.prog) w 36 5 i0 (.int .u8 0) Try.underlying36 hi hz0 .i64 .i64 L L (by omega) (by omega) (by rw [hz2]; omega) (by omega)
  rw [h, hz1]
  simp only [Int.toNat_natCast]
  rw [made_bytes]
/-- The 32 bytes of a key of any text. -/
def key32 (l : List UInt8) : List UInt8 := l.take 32 ++ List.replicate (32 - l.length) 0
theorem key32_length (l : List UInt8) : (key32 l).length = 32 := by simp [key32]; omega

theorem run_copy_cut (w : World) (g : Nat) (s : ByteArray) (cur : Array Value) (hg : w.heap[g]? = some (.cells cur 5 (0, 0))) (hc : cur.size = 32) :
    (Builtin.copy_ #[36, 9] 3 #[.slice (some ⟨g, 0, none⟩) 32 32, .string s]).run Try.prog w =
      .ok (goInt (Nat.min s.size 32)) (w.setRow g (Lib.byteCells (s.data.toList.take 32) ++ cur.toList.drop (s.data.toList.take 32).length).toArray) := by
  obtain ⟨i0, hi, hz0, hz1, hz2⟩ := info_parts infoB
  have hsz : s.size = s.data.toList.length := Lib.size_eq s
  obtain ⟨l, hl⟩ : ∃ l, s.data.toList = l := ⟨_, rfl⟩
  obtain ⟨n, hn⟩ : ∃ n, Nat.min s.size 32 = n := ⟨_, rfl⟩
  have hnl : (l.take 32).length = n := by rw [List.length_take, ← hl, ← hsz, ← hn]; exact Nat.min_comm _ _
  have hlen : (Lib.byteCells (l.take 32)).length = n := by rw [Lib.byteCells_length, hnl]
  have hst := run_storeCells_at Try.prog g 0 5 (Lib.byteCells (l.take 32)) 0 cur w hg (by have h1 := hlen; have h2 : n ≤ 32 := by { rw [← hn]; exact Nat.min_le_right _ _ }; omega) (Lib.byteCells_one _)
  have htk : List.take n (List.map (fun b : UInt8 => Value.int IntKind.u8 (b.toNat : Int)) l) = Lib.byteCells (l.take 32) := by
    rw [← hnl, Lib.byteCells, ← List.map_take, List.length_take]
    congr 1
    rcases Nat.le_total 32 l.length with h | h
    · rw [Nat.min_eq_left h]
    · rw [Nat.min_eq_right h, List.take_of_length_le (Nat.le_refl _), List.take_of_length_le h]
  rw [hlen] at hst
  simp only [Nat.add_zero, List.take_zero, List.nil_append, Nat.zero_add] at hst
  rw [hl, hnl]
  simp [Builtin.copy_, run_underlying Try.underlying36, Builtin.lenOf, Builtin.firstCells, sizeOf, typeInfo, hi, hn, hl]
  rw [htk, hst]
  simp [Result.andThen]

set_option maxRecDepth 100000 in
theorem key_is (s : ByteArray) (w : World) : Calls Try.prog 8 #[.string s] w fun e w' => e = .returned (.string ⟨(key32 s.data.toList).toArray⟩) ∧ Fr (fun _ => False) w w' := by
  have hmk : (Instr.makeSlice 36 (.int .i64 32) (.int .i64 32)).run Try.prog w = .ok (.slice (some ⟨w.heap.size, 0, none⟩) 32 32) (w.alloc (.cells (bytesV (List.replicate 32 0)).toArray 5)) := make_bytes 32 (by decide) w
  obtain ⟨W1, hW1⟩ : ∃ W1, w.alloc (.cells (bytesV (List.replicate 32 0)).toArray 5) = W1 := ⟨_, rfl⟩
  obtain ⟨g, hg⟩ : ∃ g, w.heap.size = g := ⟨_, rfl⟩
  have hb : W1.heap[g]? = some (.cells (bytesV (List.replicate 32 0)).toArray 5 (0, 0)) := by rw [← hW1, ← hg]; exact heap_alloc_new w _
  have hf : Fr (fun _ => False) w W1 := by rw [← hW1]; exact (Fr.refl _ _).alloc _
  have hcp := run_copy_cut W1 g s _ hb (by simp [bytesV])
  obtain ⟨l, hl⟩ : ∃ l, s.data.toList = l := ⟨_, rfl⟩
  rw [hl] at hcp ⊢
  have hrow : (Lib.byteCells (l.take 32) ++ (bytesV (List.replicate 32 0)).toArray.toList.drop (l.take 32).length).toArray = (bytesV (key32 l)).toArray := by
    have e : bytesV (List.replicate 32 0) = List.replicate 32 (Value.int .u8 0) := by simp [bytesV]
    have e2 : List.drop (l.take 32).length (List.replicate 32 (Value.int .u8 0)) = bytesV (List.replicate (32 - l.length) 0) := by
      rw [List.drop_replicate, List.length_take]
      rcases Nat.le_total 32 l.length with h | h
      · rw [Nat.min_eq_left h, show 32 - l.length = 0 by omega]
        rfl
      · rw [Nat.min_eq_right h]
        simp [bytesV]
    rw [key32, bytesV_append, e, List.toList_toArray, e2]
    rfl
  rw [hrow] at hcp
  have hb2 := block_setRow (cs := (bytesV (key32 l)).toArray) hb
  have hf2 := fr_setRow hf g (bytesV (key32 l)).toArray (.inr (by omega))
  obtain ⟨W2, hW2⟩ : ∃ W2, W1.setRow g (bytesV (key32 l)).toArray = W2 := ⟨_, rfl⟩
  rw [hW1, hg] at hmk
  rw [hW2] at hcp hb2 hf2
  obtain ⟨cn, hcn⟩ : ∃ cn : Int, goInt (Nat.min s.size 32) = .int .i64 cn := ⟨_, rfl⟩
  rw [hcn] at hcp
  have hbr : Br W2 0 (.slice (some ⟨g, 0, none⟩) 32 32) (key32 l) :=
    ⟨g, 32, _, (0, 0), ⟨by rw [key32_length], hb2, Nat.zero_le _, by rw [key32_length]; exact Nat.le_refl _, by simp [bytesV, key32_length], fun j hj => by simp [bytesV, List.getD, hj], fun j _ => by simp⟩⟩
  have Htx := Lib.hid hbr.text
  have HF := Lib.hid hf2
  clear hbr hb hf hrow hb2 hf2 hW2 hcn hl hW1 hg
  go_enter Try.func8, Try.ntmps8
  go_wp2_with (refine wpList_cv 36 9 _ rfl rfl _ _ rfl Htx.out ?_)
  go_ret
  exact ⟨rfl, HF.out⟩
end Go.Proofs.Ytmcenocmilhekaa
