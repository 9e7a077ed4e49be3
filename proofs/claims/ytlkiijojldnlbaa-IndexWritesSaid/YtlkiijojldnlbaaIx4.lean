/- Layer 27 (index): a number in bytes. -/
import Derived.Test.YtlkiijojldnlbaaIx3
import Derived.Laws.MakeOwn
import Derived.Test.YtlkiijojldnlbaaBr
namespace Go.Ix
set_option linter.unusedVariables false
/-- So many bytes of a number, the lowest first. -/
def lb (n : Nat) (k : Nat) : List UInt8 := (List.range k).map fun i => UInt8.ofNat (n / 256 ^ i % 256)
theorem lb_length (n k : Nat) : (lb n k).length = k := by simp [lb]
/-- The row when i bytes are laid. -/
def lbTo (n k i : Nat) : List UInt8 := (List.range k).map fun j => if j < i then UInt8.ofNat (n / 256 ^ j % 256) else 0
theorem lbTo_zero (n k : Nat) : lbTo n k 0 = List.replicate k 0 := by
  apply List.ext_getElem
  · simp [lbTo]
  · intro i h1 h2; simp [lbTo]
theorem lbTo_all (n k : Nat) : lbTo n k k = lb n k := by
  apply List.ext_getElem
  · simp [lbTo, lb]
  · intro i h1 h2
    have : i < k := by simpa [lbTo] using h1
    simp [lbTo, lb, this]
theorem lbTo_set (n k i : Nat) (h : i < k) : (lbTo n k i).set i (UInt8.ofNat (n / 256 ^ i % 256)) = lbTo n k (i + 1) := by
  apply List.ext_getElem
  · simp [lbTo]
  · intro j h1 h2
    have hj : j < k := by simpa [lbTo] using h2
    rw [List.getElem_set]
    by_cases e : i = j
    · subst e
      simp [lbTo]
    · rw [if_neg e]
      simp only [lbTo, List.getElem_map, List.getElem_range]
      by_cases hji : j < i
      · rw [if_pos hji, if_pos (by omega)]
      · rw [if_neg hji, if_neg (by omega)]
end Go.Ix
namespace Go.Proofs.Ytlkiijojldnlbaa
set_option linter.unusedVariables false
open Go.RowKit Go.My Go.Ix

theorem bytesV_get {s : List UInt8} {k : Nat} (h : k < s.length) : (bytesV s)[k]? = some (.int .u8 ((s.getD k 0).toNat : Int)) := by
  simp [bytesV, List.getD, List.getElem?_eq_getElem h]
theorem own_text {w : World} {B n : Nat} {v : Value} {bs : List UInt8} (h : w.ownsRow B 5 1 v n (bytesV bs)) : (convert 52 9 v).run Try.prog w = .ok (.string ⟨bs.toArray⟩) w := by
  have hl : bs.length = n := by have := h.1; simp [bytesV] at this; exact this
  have e : strOfNums (bs.map fun b => (b.toNat : Int)) = ⟨bs.toArray⟩ := by
    unfold strOfNums
    congr 2
    rw [List.map_map]
    conv => rhs; rw [← List.map_id bs]
    exact List.map_congr_left (fun b _ => by simp)
  rw [← e]
  rcases h.2 with ⟨rfl, rfl⟩ | ⟨g, cap, cur, rfl, _⟩
  · obtain rfl : bs = [] := List.eq_nil_of_length_eq_zero hl
    exact run_convert_bytes_nil w 52 5 Try.underlying52 Try.underlying5 0 0 9 Try.underlying9
  · refine run_convert_bytes_arg w 52 5 Try.underlying52 Try.underlying5 g 0 n cap _ (by simpa using hl) (fun i hi => ?_) 9 Try.underlying9
    have hc := h.cells (g := g) rfl i (.int .u8 ((bs.map fun b => (b.toNat : Int)).getD i 0)) (by simp [bytesV, List.getD, List.getElem?_eq_getElem (show i < bs.length by omega)])
    have hplain : (⟨g, 0, none⟩ : Addr).add i = ⟨g, 0 + i, none⟩ := by unfold Addr.add; split <;> simp_all
    rw [hplain] at hc
    exact hc
theorem byte_of (n i : Nat) : (((UInt8.ofNat (n / 256 ^ i % 256)).toNat : Nat) : Int) = (n : Int) / 2 ^ (8 * i) % 256 := by
  have h1 : (UInt8.ofNat (n / 256 ^ i % 256)).toNat = n / 256 ^ i % 256 := by
    rw [UInt8.toNat_ofNat']
    exact Nat.mod_mod _ _
  rw [h1, show (256 : Nat) ^ i = 2 ^ (8 * i) by rw [Nat.pow_mul]]
  simp
theorem bytesV_setAt (l : List UInt8) (i : Nat) (b : UInt8) : (bytesV l).toArray.setIfInBounds i (.int .u8 (b.toNat : Int)) = (bytesV (l.set i b)).toArray := by
  simp [bytesV, List.map_set]
theorem made_bytes (n : Nat) : madeCells (Value.int .u8 0).cells (n * 1) = (bytesV (List.replicate n 0)).toArray := by
  rw [Nat.mul_one]
  apply Array.ext
  · simp [madeCells, bytesV]
  · intro i h1 h2
    simp [madeCells, bytesV, Value.cells, Nat.mod_one]
theorem make_bytes (n : Nat) (hn : n ≤ 65536) (w : World) : (Instr.makeSlice 52 (.int .i64 (n : Int)) (.int .i64 (n : Int))).run Try.prog w = .ok (.slice (some ⟨w.heap.size, 0, none⟩) n n) (w.alloc (.cells (bytesV (List.replicate n 0)).toArray 5)) := by
  obtain ⟨i0, hi, hz0, hz1, hz2⟩ := info_parts infoByte
  have h := run_make (P := Try.prog) w 52 5 i0 (.int .u8 0) Try.underlying52 hi hz0 .i64 .i64 n n (by omega) (by omega) (by rw [hz2]; omega) (by omega)
  rw [h, hz1]
  simp only [Int.toNat_natCast]
  rw [made_bytes]

set_option maxHeartbeats 2000000 in
set_option maxRecDepth 100000 in
theorem idxNumber_is (n k : Nat) (hn : n < 4294967296) (hk : 1 ≤ k ∧ k ≤ 4) (w : World) :
    Calls Try.prog 32 #[.int .i64 (n : Int), .int .i64 (k : Int)] w fun e w' => e = .returned (.string ⟨(lb n k).toArray⟩) ∧ Fr (fun _ => False) w w' := by
  have hmk := make_bytes k (by omega) w
  have hb := heap_alloc_new w (.cells (bytesV (List.replicate k 0)).toArray 5)
  rw [← lbTo_zero n k] at hmk hb
  have hf : Fr (fun _ => False) w (w.alloc (.cells (bytesV (lbTo n k 0)).toArray 5)) := (Fr.refl _ w).alloc _
  obtain ⟨W, hW⟩ : ∃ W, w.alloc (.cells (bytesV (lbTo n k 0)).toArray 5) = W := ⟨_, rfl⟩
  obtain ⟨g, hg⟩ : ∃ g, w.heap.size = g := ⟨_, rfl⟩
  rw [hW, hg] at hmk
  rw [hW, hg] at hb
  rw [hW] at hf
  have HB := Lib.hid hb
  have HF := Lib.hid hf
  have Hg := Lib.hid hg
  have Hk := Lib.hid hk
  clear hb hf hW hg
  have hk4 : (k : Int) ≤ 4 := by omega
  go_enter Try.func32, Try.ntmps32
  go_upto_region 2 with fail
  clear hmk
  go_wp2
  go_loopw [6, 11] (fun _ v11 wr => ∃ i : Nat, i ≤ k ∧ v11 = .int .i64 (i : Int) ∧ Hid (wr.heap[g]? = some (.cells (bytesV (lbTo n k i)).toArray 5 (0, 0))) ∧ Hid (Fr (fun _ => False) w wr)) (fun _ v11 _ => k - (intOf v11).toNat)
  case atStart => exact ⟨0, Nat.zero_le _, rfl, HB, HF⟩
  case round =>
    obtain ⟨i, hi, rfl, KB, KF⟩ := hrel
    by_cases hlt : i < k
    · have hI : (i : Int) < (k : Int) := by omega
      have hi0 : (0 : Int) ≤ (i : Int) := by omega
      have c0 : wr.cell? ⟨g, i, none⟩ = some (.int .u8 (((lbTo n k i).getD i 0).toNat : Int)) := by
        rw [cell_of KB.out i, List.getElem?_toArray]
        exact bytesV_get (by simp [lbTo]; exact hlt)
      have f0 := free_of KB.out i
      have e8 : IntKind.i64.wrap (8 * (i : Int)) = 8 * (i : Int) := IntWalk.i64_in _ (by omega)
      have h8 : (0 : Int) ≤ 8 * (i : Int) := by omega
      have hbo := byte_of n i
      have Hbo := Lib.hid hbo
      clear hbo
      go_wp2
      go_roundw
      case rel =>
        refine ⟨i + 1, by omega, by go_num, ?_, KF.out.setCell _ _ (.inr (by rw [← Hg.out]; exact Nat.le_refl _))⟩
        have hz := block_setCell KB.out (.int .u8 ((n : Int) / 2 ^ (8 * i) % 256)) (off := i)
        rw [← Hbo.out, bytesV_setAt, lbTo_set n k i hlt, Hbo.out] at hz
        exact hz
      case measure => simp [intOf]; omega
    · obtain rfl : i = k := by omega
      have hown : wr.ownsRow 0 5 1 (.slice (some ⟨g, 0, none⟩) i i) i (bytesV (lb n i)) := by
        rw [lbTo_all] at KB
        exact ⟨by simp [bytesV, lb_length], .inr ⟨g, i, _, rfl, Nat.zero_le _, KB.out, Nat.le_refl _, by unfold maxLen; omega, by simp [bytesV, lb_length], List.take_of_length_le (by simp [bytesV, lb_length])⟩⟩
      have hcv := own_text hown
      clear hown KB
      go_wp2
      go_ret
      exact ⟨rfl, KF.out⟩

/-- Entries: their names, their bytes. -/
def entsV (l : List (List UInt8 × List UInt8)) : List Value := l.flatMap fun x => [Value.string ⟨x.1.toArray⟩, .string ⟨x.2.toArray⟩]
theorem entsV_get : ∀ (L : List (List UInt8 × List UInt8)) (k : Nat) (h : k < L.length), (entsV L)[k * 2]? = some (.string ⟨(L[k]).1.toArray⟩) ∧ (entsV L)[k * 2 + 1]? = some (.string ⟨(L[k]).2.toArray⟩)
  | [], k, h => by simp at h
  | x :: L, 0, h => by simp [entsV]
  | x :: L, k + 1, h => by
    have ih := entsV_get L k (by simpa using h)
    have e1 : (k + 1) * 2 = k * 2 + 2 := by omega
    rw [e1]
    simp only [entsV, List.flatMap_cons] at ih ⊢
    exact ⟨by simpa using ih.1, by simpa using ih.2⟩
/-- So many of the entries' bytes. -/
def sumD (l : List (List UInt8 × List UInt8)) : Nat → Nat
  | 0 => 0
  | i + 1 => sumD l i + (l.getD i ([], [])).2.length
end Go.Proofs.Ytlkiijojldnlbaa
