/- Layer 27 (index): the reader of an index. -/
import Derived.Test.YtlkiijojldnlbaaBd
import Derived.Carry
import Derived.Deep.CutBlock
namespace Go.Ix
set_option linter.unusedVariables false
/-- The number of bytes, the lowest first. -/
def le : List UInt8 → Nat
  | [] => 0
  | b :: l => b.toNat + 256 * le l
theorem le_drop (l : List UInt8) (k : Nat) (h : k < l.length) : le (l.drop k) = (l.getD k 0).toNat + 256 * le (l.drop (k + 1)) := by
  rw [List.drop_eq_getElem_cons h, le, List.getD_eq_getElem?_getD, List.getElem?_eq_getElem h]
  rfl
theorem le_lt (l : List UInt8) : le l < 256 ^ l.length := by
  induction l with
  | nil => exact Nat.one_pos
  | cons b l ih =>
    have := b.toNat_lt
    show b.toNat + 256 * le l < 256 ^ (l.length + 1)
    rw [Nat.pow_succ]
    omega
theorem le_small (l : List UInt8) (h : l.length ≤ 4) : le l < 4294967296 := Nat.lt_of_lt_of_le (le_lt l) (Nat.le_trans (Nat.pow_le_pow_right (by decide) h) (by decide))
end Go.Ix
namespace Go.Proofs.Ytlkiijojldnlbaa
set_option linter.unusedVariables false
open Go.RowKit Go.My Go.Ix

theorem str_at (s : ByteArray) (j : Nat) (h : j < s.size) : s[j] = s.data.toList.getD j 0 := by
  cases s with
  | mk d =>
    have h2 : j < d.toList.length := h
    simp only [List.getD, List.getElem?_eq_getElem h2, Option.getD_some]
    rfl
theorem le_or (n b : Nat) (hb : b < 256) : n <<< 8 ||| b = 256 * n + b := by
  rw [← Nat.shiftLeft_add_eq_or_of_lt (by exact hb), Nat.shiftLeft_eq]
  omega
theorem or_i64 (N b : Nat) (hN : N < 4294967296) (hb : b < 256) : Go.bits .or .i64 ((N : Int) * 256) (b : Int) = ((b + 256 * N : Nat) : Int) := by
  have h := (bits_nat .i64 60 (by decide) (fun n h0 h1 => IntWalk.i64_in n (by omega)) (N * 256) b (by omega) (by omega)).2
  rw [show ((N : Int) * 256) = ((N * 256 : Nat) : Int) by omega, h]
  have h2 := le_or N b hb
  rw [Nat.shiftLeft_eq] at h2
  rw [show N * 256 = N * 2 ^ 8 from rfl, h2]
  omega
/-- A reader: what is left, and whether there was too little. -/
def Rd (w : World) (p : Nat) (S : ByteArray) (sh : Bool) : Prop := w.heap[p]? = some (.cells #[.string S, .bool sh] 73 (0, 0))
theorem Rd.keep {w w' : World} {p : Nat} {S : ByteArray} {sh : Bool} {T : Nat → Prop} (h : Rd w p S sh) (hf : Fr T w w') (hs : ¬ T p) : Rd w' p S sh := hf.keep h hs

set_option maxHeartbeats 2000000 in
set_option maxRecDepth 100000 in
theorem raw_ok (p : Nat) (S : ByteArray) (n : Nat) (hn : n ≤ S.size) (hS : S.size ≤ 1000000000) (w : World) (h : Rd w p S false) :
    Calls Try.prog 28 #[.pointer (some ⟨p, 0, none⟩), .int .i64 (n : Int)] w fun e w' => e = .returned (.string (S.extract 0 n)) ∧ Rd w' p (S.extract n S.size) false ∧ Fr (fun k => k = p) w w' := by
  have c0 : w.cell? ⟨p, 0, none⟩ = some (.string S) := (cell_of h 0).trans rfl
  have c1 : w.cell? ⟨p, 1, none⟩ = some (.bool false) := (cell_of h 1).trans rfl
  have f0 := free_of h 0
  have f1 := free_of h 1
  have hnI : ¬ ((S.size : Int) < (n : Int)) := by omega
  have hn0 : (0 : Int) ≤ (n : Int) := by omega
  have hn1 : (n : Int) ≤ (S.size : Int) := by omega
  have H := Lib.hid h
  clear h
  go_enter Try.func28, Try.ntmps28
  go_wp2
  go_ret
  exact ⟨rfl, block_setCell H.out _ (off := 0), (Fr.refl _ w).setCell _ _ (.inl rfl)⟩
set_option maxHeartbeats 2000000 in
set_option maxRecDepth 100000 in
theorem raw_bad (p : Nat) (S : ByteArray) (sh : Bool) (n : Nat) (hb : sh = true ∨ S.size < n) (w : World) (h : Rd w p S sh) :
    Calls Try.prog 28 #[.pointer (some ⟨p, 0, none⟩), .int .i64 (n : Int)] w fun e w' => e = .returned (.string ByteArray.empty) ∧ Rd w' p S true ∧ Fr (fun k => k = p) w w' := by
  have c0 : w.cell? ⟨p, 0, none⟩ = some (.string S) := (cell_of h 0).trans rfl
  have c1 : w.cell? ⟨p, 1, none⟩ = some (.bool sh) := (cell_of h 1).trans rfl
  have f0 := free_of h 0
  have f1 := free_of h 1
  have H := Lib.hid h
  clear h
  cases sh
  · have hnI : (S.size : Int) < (n : Int) := by
      rcases hb with h | h
      · cases h
      · omega
    clear hb
    go_enter Try.func28, Try.ntmps28
    go_wp2
    go_ret
    exact ⟨rfl, block_setCell H.out _ (off := 1), (Fr.refl _ w).setCell _ _ (.inl rfl)⟩
  · clear hb
    go_enter Try.func28, Try.ntmps28
    go_wp2
    go_ret
    exact ⟨rfl, block_setCell H.out _ (off := 1), (Fr.refl _ w).setCell _ _ (.inl rfl)⟩

set_option maxHeartbeats 2000000 in
set_option maxRecDepth 100000 in
theorem refNumber_is (S : ByteArray) (l : List UInt8) (hl : S.data.toList = l) (h4 : l.length ≤ 4) (w : World) :
    Calls Try.prog 29 #[.string S] w fun e w' => e = .returned (.int .i64 (le l : Nat)) ∧ w' = w := by
  have hsz : S.size = l.length := by rw [← hl]; simp
  have hat : ∀ j (h : j < S.size), S[j] = l.getD j 0 := fun j h => by rw [← hl]; exact str_at S j h
  obtain ⟨R, hR⟩ : ∃ R, le l = R := ⟨_, rfl⟩
  rw [hR]
  have Hat := Lib.hid hat
  have Hl := Lib.hid hl
  have HR := Lib.hid hR
  clear hat hl hR
  go_enter Try.func29, Try.ntmps29
  go_upto_region 3 with fail
  go_wp2
  go_loop [3, 4] (fun v3 v4 => ∃ (k : Nat) (q : Int), k ≤ l.length ∧ Hid (q = (k : Int) - 1) ∧ v4 = .int .i64 q ∧ v3 = .int .i64 ((le (l.drop k) : Nat) : Int)) (fun _ v4 => ((intOf v4) + 1).toNat)
  case atStart => exact ⟨l.length, _, Nat.le_refl _, rfl, rfl, by rw [List.drop_length]; rfl⟩
  case round =>
    obtain ⟨k, q, hk, hq, rfl, rfl⟩ := hrel
    cases k with
    | zero =>
      obtain rfl : q = -1 := by have := hq.out; omega
      rw [List.drop_zero, HR.out]
      clear hq hk
      go_wp2
      go_ret
      exact ⟨rfl, rfl⟩
    | succ j =>
      obtain rfl : q = (j : Int) := by have := hq.out; omega
      have hj : j < S.size := by omega
      have hd := le_drop l j (by omega)
      have hlt := le_small (l.drop (j + 1)) (by rw [List.length_drop]; omega)
      have hs := Hat.out j hj
      rw [← hs] at hd
      have hb := (S[j]'hj).toNat_lt
      have Hd := Lib.hid hd
      obtain ⟨N, hN⟩ : ∃ N, le (l.drop (j + 1)) = N := ⟨_, rfl⟩
      rw [hN] at hlt Hd ⊢
      have hj0 : (0 : Int) ≤ (j : Int) := by omega
      have hjI : (j : Int) < (l.length : Int) := by omega
      clear hd hs hN hq hk
      go_wp2
      go_round
      case rel => exact ⟨j, _, by omega, rfl, rfl, by rw [Hd.out]; congr 1; try omega⟩
      case measure => simp [intOf]

set_option maxHeartbeats 2000000 in
set_option maxRecDepth 100000 in
theorem number_ok (p : Nat) (S : ByteArray) (n : Nat) (hn : n ≤ S.size) (h4 : n ≤ 4) (hS : S.size ≤ 1000000000) (l : List UInt8) (hl : S.data.toList = l) (w : World) (h : Rd w p S false) :
    Calls Try.prog 27 #[.pointer (some ⟨p, 0, none⟩), .int .i64 (n : Int)] w fun e w' => e = .returned (.int .i64 (le (l.take n) : Nat)) ∧ Rd w' p (S.extract n S.size) false ∧ Fr (fun k => k = p) w w' := by
  have hr := raw_ok p S n hn hS w h
  obtain ⟨X, hX⟩ : ∃ X, S.extract 0 n = X := ⟨_, rfl⟩
  have hXl : X.data.toList = l.take n := by rw [← hX, ← hl]; simp [ByteArray.data_extract]
  have hXs : X.size = n := by rw [← hX, ByteArray.size_extract]; omega
  rw [hX] at hr
  obtain ⟨m, hm⟩ : ∃ m, l.take n = m := ⟨_, rfl⟩
  rw [hm] at hXl ⊢
  have hml : m.length = n := by rw [← hXl, ← hXs]; simp
  have hat : ∀ j (h : j < X.size), X[j] = m.getD j 0 := fun j h => by rw [← hXl]; exact str_at X j h
  obtain ⟨R, hR⟩ : ∃ R, le m = R := ⟨_, rfl⟩
  rw [hR]
  have Hr := Lib.hid hr
  have Hat := Lib.hid hat
  have HR := Lib.hid hR
  have Hml := Lib.hid hml
  have hni : (n : Int) ≤ 4 := by omega
  clear hr hX hXl hm hat hR hml h hn hl hS
  go_enter Try.func27, Try.ntmps27
  go_upto_region 4 with (go_at_call 28; refine Hr.out.mono ?_; rintro e w1 ⟨rfl, h1, h2⟩; have R1 := Lib.hid h1; have F1 := Lib.hid h2; clear h1 h2)
  clear Hr
  go_wp2
  go_loop [6, 7] (fun v6 v7 => ∃ (k : Nat) (q : Int), k ≤ n ∧ Hid (q = (k : Int) - 1) ∧ v7 = .int .i64 q ∧ v6 = .int .i64 ((le (m.drop k) : Nat) : Int)) (fun _ v7 => ((intOf v7) + 1).toNat)
  case atStart => exact ⟨n, _, Nat.le_refl _, rfl, rfl, by rw [show m.drop n = [] by rw [← Hml.out]; exact List.drop_length]; rfl⟩
  case round =>
    obtain ⟨k, q, hk, hq, rfl, rfl⟩ := hrel
    cases k with
    | zero =>
      obtain rfl : q = -1 := by have := hq.out; omega
      rw [List.drop_zero, HR.out]
      clear hq hk
      go_wp2
      go_ret
      exact ⟨rfl, R1.out, F1.out⟩
    | succ j =>
      obtain rfl : q = (j : Int) := by have := hq.out; omega
      have hj : j < X.size := by omega
      have hd := le_drop m j (by rw [Hml.out]; omega)
      have hlt := le_small (m.drop (j + 1)) (by rw [List.length_drop, Hml.out]; omega)
      have hlt2 : le (m.drop (j + 1)) < 16777216 := by
        refine Nat.lt_of_lt_of_le (le_lt _) (Nat.le_trans (Nat.pow_le_pow_right (by decide) (?_ : _ ≤ 3)) (by decide))
        rw [List.length_drop, Hml.out]; omega
      have hs := Hat.out j hj
      rw [← hs] at hd
      have hb := (X[j]'hj).toNat_lt
      have Hd := Lib.hid hd
      obtain ⟨N, hN⟩ : ∃ N, le (m.drop (j + 1)) = N := ⟨_, rfl⟩
      rw [hN] at hlt hlt2 Hd ⊢
      have hj0 : (0 : Int) ≤ (j : Int) := by omega
      have hjI : (j : Int) < (n : Int) := by omega
      clear hd hs hN hq hk
      have hbo := or_i64 N (X[j]'hj).toNat hlt hb
      have Hbo := Lib.hid hbo
      clear hbo
      go_wp2
      go_round
      case rel => exact ⟨j, _, by omega, rfl, rfl, by rw [Hd.out, Hbo.out]⟩
      case measure => simp [intOf]

set_option maxHeartbeats 2000000 in
set_option maxRecDepth 100000 in
theorem number_bad (p : Nat) (S : ByteArray) (sh : Bool) (n : Nat) (hb : sh = true ∨ S.size < n) (w : World) (h : Rd w p S sh) :
    Calls Try.prog 27 #[.pointer (some ⟨p, 0, none⟩), .int .i64 (n : Int)] w fun e w' => e = .returned (.int .i64 0) ∧ Rd w' p S true ∧ Fr (fun k => k = p) w w' := by
  have hr := raw_bad p S sh n hb w h
  have Hr := Lib.hid hr
  clear hr hb h
  have he : (ByteArray.empty.size : Int) = 0 := rfl
  go_enter Try.func27, Try.ntmps27
  go_upto_region 3 with (go_at_call 28; refine Hr.out.mono ?_; rintro e w1 ⟨rfl, h1, h2⟩; have R1 := Lib.hid h1; have F1 := Lib.hid h2; clear h1 h2)
  clear Hr
  go_wp2
  go_loop [6, 7] (fun v6 v7 => v7 = .int .i64 (-1) ∧ v6 = .int .i64 0) (fun _ _ => 0)
  case atStart => exact ⟨rfl, rfl⟩
  case round =>
    obtain ⟨rfl, rfl⟩ := hrel
    go_wp2
    go_ret
    exact ⟨rfl, R1.out, F1.out⟩
end Go.Proofs.Ytlkiijojldnlbaa
