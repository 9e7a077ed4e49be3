/- Layer 4 (probs): bytes beside others. -/
import Derived.Test.YtpddocehjljofaaPw
namespace Go.Proofs.Ytpddocehjljofaa
set_option linter.unusedVariables false
open Go.RowKit Go.My

theorem and256 (a : Nat) (ha : a < 4294967296) : Go.bits .and .i64 (a : Int) 256 = ((a / 256 % 2 * 256 : Nat) : Int) := by
  have h := (bits_nat .i64 32 (by decide) (fun n h0 h1 => IntWalk.i64_in n (by omega)) a 256 ha (by decide)).1
  rw [show ((256 : Nat) : Int) = 256 from rfl] at h
  rw [h]
  congr 1
  apply Nat.eq_of_testBit_eq
  intro i
  rw [Nat.testBit_and, show a / 256 % 2 * 256 = (a / 256 % 2) <<< 8 by rw [Nat.shiftLeft_eq], Nat.testBit_shiftLeft, show (256 : Nat) = 2 ^ 8 from rfl, Nat.testBit_two_pow]
  by_cases h8 : 8 = i
  · subst h8
    simp [Nat.testBit_eq_decide_div_mod_eq]
  · by_cases h9 : i ≥ 8
    · have : (a / 2 ^ 8 % 2).testBit (i - 8) = false := by
        apply Nat.testBit_lt_two_pow
        have h1 : (2 : Nat) ^ 1 ≤ 2 ^ (i - 8) := Nat.pow_le_pow_right (by decide) (by omega)
        have h2 : a / 2 ^ 8 % 2 < 2 := Nat.mod_lt _ (by decide)
        omega
      simp [h8, this]
    · simp [h8, h9]
theorem andLike (c : Nat) (hc : c < 2) (like : Bool) : Go.bits .and .i64 ((c * 256 : Nat) : Int) (((if like then 256 else 0 : Nat)) : Int) = ((if like then c * 256 else 0 : Nat) : Int) := by
  rcases (show c = 0 ∨ c = 1 by omega) with rfl | rfl <;> cases like <;> decide

/-- The like of a byte: its place, its half, the other's bits. -/
def LkAt (w : World) (q m H o : Nat) : Prop := w.heap[q]? = some (.cells #[.int .i64 (m : Int), .int .i64 (H : Int), .int .i64 (o : Int)] 128 (0, 0))

set_option maxHeartbeats 2000000 in
set_option maxRecDepth 10000 in
theorem like_at (q m H o C K : Nat) (w : World) (h : LkAt w q m H o) (hm : m < 1000) (hH : H ≤ 256) (hK : K ≤ 256) (ho : o < 1000000)
    (hA : Go.bits .and .i64 (((2 * o : Nat) : Nat) : Int) 256 = (C : Int)) (hB : Go.bits .and .i64 (C : Int) (H : Int) = (K : Int)) :
    Calls Try.prog 75 #[.pointer (some ⟨q, 0, none⟩)] w fun r w' => r = .returned (.int .i64 ((H + K + m : Nat) : Int)) ∧ LkAt w' q m H (2 * o) ∧ Fr (one q) w w' := by
  have c0 : w.cell? ⟨q, 0, none⟩ = some (.int .i64 (m : Int)) := (cell_of h 0).trans rfl
  have c1 : w.cell? ⟨q, 1, none⟩ = some (.int .i64 (H : Int)) := (cell_of h 1).trans rfl
  have c2 : w.cell? ⟨q, 2, none⟩ = some (.int .i64 (o : Int)) := (cell_of h 2).trans rfl
  have f2 := free_of h 2
  have hb : LkAt (w.setCell ⟨q, 2, none⟩ (.int .i64 ((o : Int) * 2))) q m H (2 * o) := by
    have := block_setCell h (.int .i64 ((o : Int) * 2)) (off := 2)
    unfold LkAt
    rw [this]
    simp
    omega
  have hf : Fr (one q) w (w.setCell ⟨q, 2, none⟩ (.int .i64 ((o : Int) * 2))) := (Fr.refl _ _).setCell _ _ (.inl rfl)
  have Hb := Lib.hid hb
  have Hf := Lib.hid hf
  rw [show ((2 * o : Nat) : Int) = (o : Int) * 2 by omega] at hA
  have hs1 : IntKind.i64.wrap ((H : Int) + (K : Int)) = (H : Int) + (K : Int) := IntWalk.i64_in _ (by omega)
  have hs2 : IntKind.i64.wrap ((H : Int) + (K : Int) + (m : Int)) = (H : Int) + (K : Int) + (m : Int) := IntWalk.i64_in _ (by omega)
  have hoi : (o : Int) < 1000000 := by omega
  clear h hb hf hm hH hK ho
  go_enter Try.func75, Try.ntmps75
  go_wp2
  go_quiet (fail)
  go_wp2
  go_quiet (fail)
  go_wp2
  go_ret
  exact ⟨by simp, (((Fr.refl (fun _ => False) _).drewN _).drewN _).keep Hb.out (fun h => h), (Hf.out.drewN _).drewN _⟩

set_option maxHeartbeats 2000000 in
set_option maxRecDepth 10000 in
theorem like_step (q m H o C b : Nat) (w : World) (h : LkAt w q m H o) (hm : m < 1000) (hb2 : b < 2)
    (hA : Go.bits .and .i64 (o : Int) 256 = (C : Int)) (hC : C ≤ 256) :
    Calls Try.prog 76 #[.pointer (some ⟨q, 0, none⟩), .int .i64 (b : Int)] w fun r w' => r = .returned (.tuple #[]) ∧ LkAt w' q (2 * m + b) (if b * 256 = C then H else 0) o ∧ Fr (one q) w w' := by
  have c0 : w.cell? ⟨q, 0, none⟩ = some (.int .i64 (m : Int)) := (cell_of h 0).trans rfl
  have c1 : w.cell? ⟨q, 1, none⟩ = some (.int .i64 (H : Int)) := (cell_of h 1).trans rfl
  have c2 : w.cell? ⟨q, 2, none⟩ = some (.int .i64 (o : Int)) := (cell_of h 2).trans rfl
  have f0 := free_of h 0
  have f1 := free_of h 1
  have hor := or1_i64 m b (by omega) hb2
  have hb : LkAt (w.setCell ⟨q, 0, none⟩ (.int .i64 ((2 * m + b : Nat) : Int))) q (2 * m + b) H o := block_setCell h _
  have hf : Fr (one q) w (w.setCell ⟨q, 0, none⟩ (.int .i64 ((2 * m + b : Nat) : Int))) := (Fr.refl _ _).setCell _ _ (.inl rfl)
  have hb3 : LkAt ((w.setCell ⟨q, 0, none⟩ (.int .i64 ((2 * m + b : Nat) : Int))).setCell ⟨q, 1, none⟩ (.int .i64 0)) q (2 * m + b) 0 o := block_setCell hb _
  have hf3 : Fr (one q) w ((w.setCell ⟨q, 0, none⟩ (.int .i64 ((2 * m + b : Nat) : Int))).setCell ⟨q, 1, none⟩ (.int .i64 0)) := hf.setCell _ _ (.inl rfl)
  have Hb := Lib.hid hb
  have Hf := Lib.hid hf
  have Hb3 := Lib.hid hb3
  have Hf3 := Lib.hid hf3
  have hmi : (m : Int) < 1000 := by omega
  have hbi : (b : Int) < 2 := by omega
  by_cases he : b * 256 = C
  · have t : ((b : Int) * 256 != (C : Int)) = false := by simp; omega
    rw [if_pos he]
    clear h hb hf hb3 hf3 hm hb2 hC he
    go_enter Try.func76, Try.ntmps76
    go_wp2
    go_end0
    exact ⟨rfl, Hb.out, Hf.out⟩
  · have t : ((b : Int) * 256 != (C : Int)) = true := by simp; omega
    rw [if_neg he]
    clear h hb hf hb3 hf3 hm hb2 hC he
    go_enter Try.func76, Try.ntmps76
    go_wp2
    go_end0
    exact ⟨rfl, Hb3.out, Hf3.out⟩
end Go.Proofs.Ytpddocehjljofaa
