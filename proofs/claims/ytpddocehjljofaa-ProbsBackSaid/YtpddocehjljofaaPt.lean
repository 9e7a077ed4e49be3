/- Layer 4 (probs): trees, numbers by them: the functions. -/
import Derived.Test.YtpddocehjljofaaEnc4
import Derived.Test.YtpddocehjljofaaDec4
import Derived.Test.YtpddocehjljofaaRcL
import Derived.Laws.MakeOwn
import Derived.StillTailTactics
import Derived.Deep.CutBlock
import Derived.Outline
namespace Go.Proofs.Ytpddocehjljofaa
set_option linter.unusedVariables false
open Go.RowKit Go.My

theorem pow2_lt (k N : Nat) (hk : k ≤ N) (hN : N ≤ 16) : ((2 : Nat) ^ k < 2 ^ N ↔ k < N) ∧ (2 : Nat) ^ k ≤ 65536 := by
  refine ⟨Nat.pow_lt_pow_iff_right (by decide), ?_⟩
  have : (2 : Nat) ^ k ≤ 2 ^ 16 := Nat.pow_le_pow_right (by decide) (by omega)
  exact this

theorem wrap_pow (k : Nat) (hk : k ≤ 16) : wrap64 ((2 : Int) ^ k) = ((2 ^ k : Nat) : Int) := by
  have h := (pow2_lt k 16 hk (by omega)).2
  rw [show ((2 : Int) ^ k) = ((2 ^ k : Nat) : Int) by simp]
  generalize 2 ^ k = x at *
  unfold wrap64
  omega

set_option maxHeartbeats 400000 in
theorem tree_bits (A : Option Addr) (L cap N : Nat) (hN : N ≤ 16) (hL : L = 2 ^ N) (w : World) :
    Calls Try.prog 73 #[.slice A L cap] w fun r w' => r = .returned (.int .i64 (N : Int)) ∧ w = w' := by
  have HL := Lib.hid hL
  clear hL
  go_enter Try.func73, Try.ntmps73
  go_wp2
  go_loop [3] (fun v => ∃ k : Nat, k ≤ N ∧ v = .int .i64 (k : Int)) (fun v => 16 - (intOf v).toNat)
  case atStart => exact ⟨0, Nat.zero_le _, rfl⟩
  case round =>
    obtain ⟨k, hk, rfl⟩ := hrel
    have hi : (k : Int) ≤ 16 := by omega
    go_wp2
    · have h : wrap64 (2 ^ k) < (L : Int) := by assumption
      rw [wrap_pow k (by omega), HL.out] at h
      have hlt := (pow2_lt k N hk hN).1.1 (by omega)
      go_round
      case rel => exact ⟨k + 1, by omega, by go_num⟩
      case measure => simp [intOf]; omega
    · have h : (L : Int) ≤ wrap64 (2 ^ k) := by assumption
      rw [wrap_pow k (by omega), HL.out] at h
      have hlt : k = N := by
        rcases Nat.lt_or_ge k N with h2 | h2
        · have := (pow2_lt k N hk hN).1.2 h2
          omega
        · omega
      subst hlt
      go_ret
      exact ⟨rfl, rfl⟩

theorem EncO.away {w : World} {p k : Nat} {v : Value} {ops : List Rc.Op} (h : EncO w p v ops) {cs : Array Value} {t : TypeId} {fr : Nat × Nat} (hk : w.heap[k]? = some (.cells cs t fr)) (h1 : t ≠ 115) (h2 : t ≠ 5) : ¬ encFoot p v k := by
  rintro (rfl | he)
  · exact ne_of_ty hk h.at_.blk h1 rfl
  · obtain ⟨cur, hc⟩ := own_ty h.at_.own he
    exact ne_of_ty hk hc h2 rfl

/-- Numbers of 16 bits as cells. -/
def ar16 (ps : List Nat) : Array Value := (ps.map fun (x : Nat) => Value.int .u16 (x : Int)).toArray
theorem ar16_set (ps : List Nat) (k y : Nat) : (ar16 ps).setIfInBounds k (.int .u16 (y : Int)) = ar16 (ps.set k y) := by
  apply Array.ext'
  simp [ar16, List.map_set]
/-- A tree's probabilities in a block. -/
def TrAt (w : World) (b : Nat) (t : List Nat) : Prop := w.heap[b]? = some (.cells (ar16 t) 31 (0, 0))
theorem TrAt.get {w : World} {b : Nat} {t : List Nat} (h : TrAt w b t) {k : Nat} (hk : k < t.length) : w.cell? ⟨b, k, none⟩ = some (.int .u16 ((t.getD k 0 : Nat) : Int)) := by
  refine (cell_of h k).trans ?_
  simp [ar16, List.getD, List.getElem?_eq_getElem hk]
theorem TrAt.set {w : World} {b : Nat} {t : List Nat} (h : TrAt w b t) (k y : Nat) : TrAt (w.setCell ⟨b, k, none⟩ (.int .u16 (y : Int))) b (t.set k y) := by
  unfold TrAt
  rw [← ar16_set]
  exact block_setCell h _
theorem TrAt.keep {w w' : World} {b : Nat} {t : List Nat} {S : Nat → Prop} (h : TrAt w b t) (hf : Fr S w w') (hs : ¬ S b) : TrAt w' b t := hf.keep h hs

theorem info_u16 : (Try.prog.info? 31).map (fun i => (i.zero, i.size, i.bytes)) = some (some (.int .u16 0), 1, 2) := by kernel_rfl
theorem made_arr (n : Nat) : madeCells (Value.int .u16 0).cells (n * 1) = ar16 (List.replicate n 0) := by
  rw [Nat.mul_one]
  apply Array.ext
  · simp [madeCells, ar16]
  · intro i h1 h2
    simp [madeCells, ar16, Value.cells, Nat.mod_one]
theorem arr_next (i n : Nat) (h : i < n) : (ar16 (List.replicate i 1024 ++ List.replicate (n - i) 0)).setIfInBounds i (.int .u16 1024) = ar16 (List.replicate (i + 1) 1024 ++ List.replicate (n - (i + 1)) 0) := by
  rw [show (Value.int .u16 1024) = .int .u16 ((1024 : Nat) : Int) from rfl, ar16_set]
  congr 1
  rw [List.set_append_right _ _ (by simp)]
  simp only [List.length_replicate, Nat.sub_self]
  rw [show n - i = (n - (i + 1)) + 1 by omega, List.replicate_succ, List.set_cons_zero, List.replicate_succ']
  simp

theorem make_tree (v : Int) (L : Nat) (hv : v = (L : Int)) (hL : L ≤ 65536) (w : World) : (Instr.makeSlice 68 (.int .i64 v) (.int .i64 v)).run Try.prog w = .ok (.slice (some ⟨w.heap.size, 0, none⟩) L L) (w.alloc (.cells (ar16 (List.replicate L 0)) 31)) := by
  subst hv
  obtain ⟨i0, hi, hz0, hz1, hz2⟩ := info_parts info_u16
  have h := run_make (P := Try.prog) w 68 31 i0 (.int .u16 0) Try.underlying68 hi hz0 .i64 .i64 L L (by omega) (by omega) (by rw [hz2]; omega) (by omega)
  rw [h, hz1]
  simp only [Int.toNat_natCast]
  rw [made_arr]

set_option maxHeartbeats 2000000 in
set_option maxRecDepth 10000 in
theorem tree_new (b : Int) (N : Nat) (hN : N = (min (max b 0) 16).toNat) (hb : -9223372036854775808 ≤ b ∧ b < 9223372036854775808) (w : World) :
    Calls Try.prog 37 #[.int .i64 b] w fun r w' => r = .returned (.slice (some ⟨w.heap.size, 0, none⟩) (2 ^ N) (2 ^ N)) ∧ TrAt w' w.heap.size (List.replicate (2 ^ N) 1024) ∧ Fr (fun _ => False) w w' := by
  have h16 : N ≤ 16 := by omega
  obtain ⟨L, hL⟩ : ∃ L, 2 ^ N = L := ⟨_, rfl⟩
  have hL2 : L ≤ 65536 := by rw [← hL]; exact (pow2_lt N 16 h16 (by omega)).2
  have hLi : (L : Int) ≤ 65536 := by omega
  have hcase : (b < 0 ∧ (1 : Int) = (L : Int)) ∨ (0 ≤ b ∧ b ≤ 16 ∧ wrap64 (2 ^ b.toNat) = (L : Int)) ∨ (16 < b ∧ (65536 : Int) = (L : Int)) := by
    rcases Int.lt_or_le b 0 with h | h
    · left; refine ⟨h, ?_⟩; rw [← hL, show N = 0 by omega]; rfl
    · rcases Int.lt_or_le 16 b with h2 | h2
      · right; right; refine ⟨h2, ?_⟩; rw [← hL, show N = 16 by omega]; rfl
      · right; left; refine ⟨h, h2, ?_⟩; rw [wrap_pow _ (by omega), ← hL, show N = b.toNat by omega]
  rw [hL]
  clear hN hL h16
  have hsz : (w.alloc (.cells (ar16 (List.replicate L 0)) 31)).heap.size = w.heap.size + 1 := by simp
  have hn1 := heap_alloc_new w (.cells (ar16 (List.replicate L 0)) 31)
  have Hn1 : Hid (TrAt (w.alloc (.cells (ar16 (List.replicate L 0)) 31)) w.heap.size (List.replicate 0 1024 ++ List.replicate (L - 0) 0)) := hn1
  have Hsz := Lib.hid hsz
  clear hn1 hsz
  rcases hcase with ⟨h0, hv⟩ | ⟨h0, h1, hv⟩ | ⟨h0, hv⟩
  all_goals
    have hmk := fun w => make_tree _ L hv hL2 w
    clear hv
    go_enter Try.func37, Try.ntmps37
    go_wp2
    clear hmk
    go_loopw [12] (fun v wr => ∃ i : Nat, i ≤ L ∧ v = .int .i64 (i : Int) ∧ Hid (TrAt wr w.heap.size (List.replicate i 1024 ++ List.replicate (L - i) 0)) ∧ Hid (Fr (fun _ => False) w wr)) (fun v _ => L - (intOf v).toNat)
    case atStart => exact ⟨0, Nat.zero_le _, rfl, Hn1, (Fr.refl _ _).alloc _⟩
    case round =>
      obtain ⟨i, hi, rfl, HT, HF⟩ := hrel
      by_cases hlt : i < L
      · have hii : (i : Int) < (L : Int) := by omega
        have hc : wr.cell? ⟨w.heap.size, i, none⟩ = some (.int .u16 (((List.replicate i 1024 ++ List.replicate (L - i) 0).getD i 0 : Nat) : Int)) := TrAt.get HT.out (by simp; omega)
        have hfz : wr.frozen? ⟨w.heap.size, i, none⟩ = false := free_of HT.out i
        have HT2 : Hid (TrAt (wr.setCell ⟨w.heap.size, i, none⟩ (.int .u16 1024)) w.heap.size (List.replicate (i + 1) 1024 ++ List.replicate (L - (i + 1)) 0)) := by
          show _ = _
          rw [← arr_next i L hlt]
          exact block_setCell HT.out _
        have HF2 : Hid (Fr (fun _ => False) w (wr.setCell ⟨w.heap.size, i, none⟩ (.int .u16 1024))) := HF.out.setCell _ _ (.inr (Nat.le_refl _))
        obtain ⟨c0, hc0⟩ : ∃ c0, ((List.replicate i 1024 ++ List.replicate (L - i) 0).getD i 0 : Nat) = c0 := ⟨_, rfl⟩
        rw [hc0] at hc
        clear hc0
        go_wp2
        go_roundw
        case rel => exact ⟨i + 1, by omega, by go_num, HT2, HF2⟩
        case measure => simp [intOf]; omega
      · obtain rfl : i = L := by omega
        go_wp2
        go_ret
        exact ⟨rfl, by simpa using HT.out, HF.out⟩
end Go.Proofs.Ytpddocehjljofaa
