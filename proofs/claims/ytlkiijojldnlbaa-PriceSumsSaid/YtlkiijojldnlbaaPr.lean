/- Walks of layer 15 (price) and its reference. -/
import Derived.Test.YtlkiijojldnlbaaProg
import Derived.Test.YtlkiijojldnlbaaShelf
import Derived.WalkKit
import Derived.Deep.QuietTactic
import Derived.BigQuiet
import Derived.KernelRfl
import Derived.Lib.Hide
import Derived.WalkSpells
import Derived.Deep.DeepCutAuto
import Derived.Shelf.SlSortCmp.QuietGrown
import Derived.Below
namespace Go.Proofs.Ytlkiijojldnlbaa
open Go.RowKit Go.Sort

/-- Some draws, and some blocks more. -/
def Gw (w w' : World) : Prop := ∃ q os, w' = grow (w.drewN q) os
theorem Gw.refl (w : World) : Gw w w := ⟨0, #[], by simp; rfl⟩
theorem Gw.alloc {w w' : World} (h : Gw w w') (o : Obj) : Gw w (w'.alloc o) := by
  obtain ⟨q, os, rfl⟩ := h
  exact ⟨q, os ++ #[o], by rw [alloc_eq_grow, grow_grow]⟩
theorem Gw.drewN {w w' : World} (h : Gw w w') (n : Nat) : Gw w (w'.drewN n) := by
  obtain ⟨q, os, rfl⟩ := h
  refine ⟨q + n, os, ?_⟩
  show grow ((w.drewN q).drewN n) os = _
  rw [World.drewN_drewN]
theorem Gw.grow {w w' : World} (h : Gw w w') (n : Nat) (os' : Array Obj) : Gw w (grow (w'.drewN n) os') := by
  obtain ⟨q, os, rfl⟩ := h
  refine ⟨q + n, os ++ os', ?_⟩
  show Sort.grow (Sort.grow ((w.drewN q).drewN n) os) os' = _
  rw [grow_grow, World.drewN_drewN]
theorem Gw.trans {a b c : World} (h : Gw a b) (k : Gw b c) : Gw a c := by
  obtain ⟨q, os, rfl⟩ := k
  exact h.grow q os
theorem Gw.below {w w' : World} (h : Gw w w') : Below w.heap.size w w' := by
  obtain ⟨q, os, rfl⟩ := h
  exact ⟨rfl, rfl, rfl, by simp, fun k hk => heap_grow_old _ _ (by exact hk)⟩
theorem Gw.size {w w' : World} (h : Gw w w') : w.heap.size ≤ w'.heap.size := h.below.size
theorem Gw.cell {w w' : World} (h : Gw w w') {p : Addr} (hp : p.block < w.heap.size) : w'.cell? p = w.cell? p := h.below.cell hp
theorem Gw.setCell {w w' : World} (h : Gw w w') (p : Addr) (u : Value) (hp : w.heap.size ≤ p.block) : Gw w (w'.setCell p u) := by
  obtain ⟨q, os, rfl⟩ := h
  refine ⟨q, os.modify (p.block - w.heap.size) ?_, ?_⟩
  rotate_left
  · show World.setCell _ _ _ = _
    simp only [World.setCell, Sort.grow, World.drewN]
    rw [modify_append_right _ _ _ _ hp]

/-- May a price be? -/
def okp (n : Int) : Bool := decide (1 ≤ n) && decide (n ≤ 10000)
def okT (a b c d e : Int) : Bool := okp a && (okp b && (okp c && (okp d && (okp e && true))))

theorem okp_false {n : Int} (h : n < 1 ∨ 10000 < n) : okp n = false := by
  unfold okp
  rcases h with h | h
  · rw [decide_eq_false (by omega)]; rfl
  · rw [decide_eq_false (show ¬ n ≤ 10000 by omega)]; simp
theorem okp_true {n : Int} (h : 1 ≤ n) (h2 : n ≤ 10000) : okp n = true := by
  unfold okp
  rw [decide_eq_true h, decide_eq_true h2]; rfl

/-- What the prices from the k-th on say. -/
def tl (a b c d e : Int) : Nat → Bool
  | 0 => okp a && (okp b && (okp c && (okp d && (okp e && true))))
  | 1 => okp b && (okp c && (okp d && (okp e && true)))
  | 2 => okp c && (okp d && (okp e && true))
  | 3 => okp d && (okp e && true)
  | 4 => okp e && true
  | _ => true

set_option maxRecDepth 100000 in
theorem good_is (a b c d e : Int) (w : World) : Calls Try.prog 9 #[.agg #[.int .i64 a, .int .i64 b, .int .i64 c, .int .i64 d, .int .i64 e]] w fun x w' => x = .returned (.bool (okT a b c d e)) ∧ Gw w w' := by
  have h0 : okT a b c d e = tl a b c d e 0 := rfl
  have H0 := Lib.hid h0
  clear h0
  go_enter Try.func9, Try.ntmps9
  go_wp2
  go_loop [16] (fun v16 => ∃ k : Nat, k ≤ 5 ∧ v16 = .int .i64 (k : Int) ∧ Hid (okT a b c d e = tl a b c d e k)) (fun v16 => 5 - (intOf v16).toNat)
  case atStart => exact ⟨0, by omega, rfl, H0⟩
  case round =>
    clear H0
    obtain ⟨k, hk, rfl, H⟩ := hrel
    obtain hk : k = 0 ∨ k = 1 ∨ k = 2 ∨ k = 3 ∨ k = 4 ∨ k = 5 := by omega
    rcases hk with rfl | rfl | rfl | rfl | rfl | rfl
    · have i0 : ∀ w, (Instr.index 67 (.agg #[.int .i64 a, .int .i64 b, .int .i64 c, .int .i64 d, .int .i64 e]) (.int .i64 0)).run Try.prog w = .ok (.int .i64 a) w := fun _ => by kernel_rfl
      by_cases p1 : a < 1
      · have e0 : Hid (okT a b c d e = false) := by show _ = _; rw [H.out, tl, okp_false (.inl p1)]; rfl
        clear H
        go_wp2
        go_ret
        exact ⟨congrArg (fun t => Ending.returned (.bool t)) e0.out.symm, (Gw.refl _).alloc _⟩
      · by_cases p2 : 10000 < a
        · have e0 : Hid (okT a b c d e = false) := by show _ = _; rw [H.out, tl, okp_false (.inr p2)]; rfl
          clear H
          go_wp2
          go_ret
          exact ⟨congrArg (fun t => Ending.returned (.bool t)) e0.out.symm, (Gw.refl _).alloc _⟩
        · have H' : Hid (okT a b c d e = tl a b c d e 1) := by
            show _ = _
            rw [H.out, tl, okp_true (by omega) (by omega)]; rfl
          clear H
          go_wp2
          go_round
          case rel => exact ⟨1, by omega, rfl, H'⟩
          case measure => simp [intOf]
    · have i1 : ∀ w, (Instr.index 67 (.agg #[.int .i64 a, .int .i64 b, .int .i64 c, .int .i64 d, .int .i64 e]) (.int .i64 1)).run Try.prog w = .ok (.int .i64 b) w := fun _ => by kernel_rfl
      by_cases p1 : b < 1
      · have e0 : Hid (okT a b c d e = false) := by show _ = _; rw [H.out, tl, okp_false (.inl p1)]; rfl
        clear H
        go_wp2
        go_ret
        exact ⟨congrArg (fun t => Ending.returned (.bool t)) e0.out.symm, (Gw.refl _).alloc _⟩
      · by_cases p2 : 10000 < b
        · have e0 : Hid (okT a b c d e = false) := by show _ = _; rw [H.out, tl, okp_false (.inr p2)]; rfl
          clear H
          go_wp2
          go_ret
          exact ⟨congrArg (fun t => Ending.returned (.bool t)) e0.out.symm, (Gw.refl _).alloc _⟩
        · have H' : Hid (okT a b c d e = tl a b c d e 2) := by
            show _ = _
            rw [H.out, tl, okp_true (by omega) (by omega)]; rfl
          clear H
          go_wp2
          go_round
          case rel => exact ⟨2, by omega, rfl, H'⟩
          case measure => simp [intOf]
    · have i2 : ∀ w, (Instr.index 67 (.agg #[.int .i64 a, .int .i64 b, .int .i64 c, .int .i64 d, .int .i64 e]) (.int .i64 2)).run Try.prog w = .ok (.int .i64 c) w := fun _ => by kernel_rfl
      by_cases p1 : c < 1
      · have e0 : Hid (okT a b c d e = false) := by show _ = _; rw [H.out, tl, okp_false (.inl p1)]; rfl
        clear H
        go_wp2
        go_ret
        exact ⟨congrArg (fun t => Ending.returned (.bool t)) e0.out.symm, (Gw.refl _).alloc _⟩
      · by_cases p2 : 10000 < c
        · have e0 : Hid (okT a b c d e = false) := by show _ = _; rw [H.out, tl, okp_false (.inr p2)]; rfl
          clear H
          go_wp2
          go_ret
          exact ⟨congrArg (fun t => Ending.returned (.bool t)) e0.out.symm, (Gw.refl _).alloc _⟩
        · have H' : Hid (okT a b c d e = tl a b c d e 3) := by
            show _ = _
            rw [H.out, tl, okp_true (by omega) (by omega)]; rfl
          clear H
          go_wp2
          go_round
          case rel => exact ⟨3, by omega, rfl, H'⟩
          case measure => simp [intOf]
    · have i3 : ∀ w, (Instr.index 67 (.agg #[.int .i64 a, .int .i64 b, .int .i64 c, .int .i64 d, .int .i64 e]) (.int .i64 3)).run Try.prog w = .ok (.int .i64 d) w := fun _ => by kernel_rfl
      by_cases p1 : d < 1
      · have e0 : Hid (okT a b c d e = false) := by show _ = _; rw [H.out, tl, okp_false (.inl p1)]; rfl
        clear H
        go_wp2
        go_ret
        exact ⟨congrArg (fun t => Ending.returned (.bool t)) e0.out.symm, (Gw.refl _).alloc _⟩
      · by_cases p2 : 10000 < d
        · have e0 : Hid (okT a b c d e = false) := by show _ = _; rw [H.out, tl, okp_false (.inr p2)]; rfl
          clear H
          go_wp2
          go_ret
          exact ⟨congrArg (fun t => Ending.returned (.bool t)) e0.out.symm, (Gw.refl _).alloc _⟩
        · have H' : Hid (okT a b c d e = tl a b c d e 4) := by
            show _ = _
            rw [H.out, tl, okp_true (by omega) (by omega)]; rfl
          clear H
          go_wp2
          go_round
          case rel => exact ⟨4, by omega, rfl, H'⟩
          case measure => simp [intOf]
    · have i4 : ∀ w, (Instr.index 67 (.agg #[.int .i64 a, .int .i64 b, .int .i64 c, .int .i64 d, .int .i64 e]) (.int .i64 4)).run Try.prog w = .ok (.int .i64 e) w := fun _ => by kernel_rfl
      by_cases p1 : e < 1
      · have e0 : Hid (okT a b c d e = false) := by show _ = _; rw [H.out, tl, okp_false (.inl p1)]; rfl
        clear H
        go_wp2
        go_ret
        exact ⟨congrArg (fun t => Ending.returned (.bool t)) e0.out.symm, (Gw.refl _).alloc _⟩
      · by_cases p2 : 10000 < e
        · have e0 : Hid (okT a b c d e = false) := by show _ = _; rw [H.out, tl, okp_false (.inr p2)]; rfl
          clear H
          go_wp2
          go_ret
          exact ⟨congrArg (fun t => Ending.returned (.bool t)) e0.out.symm, (Gw.refl _).alloc _⟩
        · have H' : Hid (okT a b c d e = tl a b c d e 5) := by
            show _ = _
            rw [H.out, tl, okp_true (by omega) (by omega)]; rfl
          clear H
          go_wp2
          go_round
          case rel => exact ⟨5, by omega, rfl, H'⟩
          case measure => simp [intOf]
    · have e0 : Hid (okT a b c d e = true) := H.out
      clear H
      go_wp2
      go_ret
      exact ⟨congrArg (fun t => Ending.returned (.bool t)) e0.out.symm, (Gw.refl _).alloc _⟩
set_option maxRecDepth 100000 in
theorem refgood_is (a b c d e : Int) (w : World) : Calls Try.prog 10 #[.agg #[.int .i64 a, .int .i64 b, .int .i64 c, .int .i64 d, .int .i64 e]] w fun x w' => x = .returned (.bool (okT a b c d e)) ∧ Gw w w' := by
  have h0 : okT a b c d e = tl a b c d e 0 := rfl
  have H0 := Lib.hid h0
  clear h0
  go_enter Try.func10, Try.ntmps10
  go_wp2
  go_loop [4] (fun v16 => ∃ k : Nat, k ≤ 5 ∧ v16 = .int .i64 (k : Int) ∧ Hid (okT a b c d e = tl a b c d e k)) (fun v16 => 5 - (intOf v16).toNat)
  case atStart => exact ⟨0, by omega, rfl, H0⟩
  case round =>
    clear H0
    obtain ⟨k, hk, rfl, H⟩ := hrel
    obtain hk : k = 0 ∨ k = 1 ∨ k = 2 ∨ k = 3 ∨ k = 4 ∨ k = 5 := by omega
    rcases hk with rfl | rfl | rfl | rfl | rfl | rfl
    · have i0 : ∀ w, (Instr.index 67 (.agg #[.int .i64 a, .int .i64 b, .int .i64 c, .int .i64 d, .int .i64 e]) (.int .i64 0)).run Try.prog w = .ok (.int .i64 a) w := fun _ => by kernel_rfl
      by_cases p1 : a < 1
      · have e0 : Hid (okT a b c d e = false) := by show _ = _; rw [H.out, tl, okp_false (.inl p1)]; rfl
        clear H
        go_wp2
        go_ret
        exact ⟨congrArg (fun t => Ending.returned (.bool t)) e0.out.symm, ((Gw.refl _).alloc _).alloc _⟩
      · by_cases p2 : 10000 < a
        · have e0 : Hid (okT a b c d e = false) := by show _ = _; rw [H.out, tl, okp_false (.inr p2)]; rfl
          clear H
          go_wp2
          go_ret
          exact ⟨congrArg (fun t => Ending.returned (.bool t)) e0.out.symm, ((Gw.refl _).alloc _).alloc _⟩
        · have H' : Hid (okT a b c d e = tl a b c d e 1) := by
            show _ = _
            rw [H.out, tl, okp_true (by omega) (by omega)]; rfl
          clear H
          go_wp2
          go_round
          case rel => exact ⟨1, by omega, rfl, H'⟩
          case measure => simp [intOf]
    · have i1 : ∀ w, (Instr.index 67 (.agg #[.int .i64 a, .int .i64 b, .int .i64 c, .int .i64 d, .int .i64 e]) (.int .i64 1)).run Try.prog w = .ok (.int .i64 b) w := fun _ => by kernel_rfl
      by_cases p1 : b < 1
      · have e0 : Hid (okT a b c d e = false) := by show _ = _; rw [H.out, tl, okp_false (.inl p1)]; rfl
        clear H
        go_wp2
        go_ret
        exact ⟨congrArg (fun t => Ending.returned (.bool t)) e0.out.symm, ((Gw.refl _).alloc _).alloc _⟩
      · by_cases p2 : 10000 < b
        · have e0 : Hid (okT a b c d e = false) := by show _ = _; rw [H.out, tl, okp_false (.inr p2)]; rfl
          clear H
          go_wp2
          go_ret
          exact ⟨congrArg (fun t => Ending.returned (.bool t)) e0.out.symm, ((Gw.refl _).alloc _).alloc _⟩
        · have H' : Hid (okT a b c d e = tl a b c d e 2) := by
            show _ = _
            rw [H.out, tl, okp_true (by omega) (by omega)]; rfl
          clear H
          go_wp2
          go_round
          case rel => exact ⟨2, by omega, rfl, H'⟩
          case measure => simp [intOf]
    · have i2 : ∀ w, (Instr.index 67 (.agg #[.int .i64 a, .int .i64 b, .int .i64 c, .int .i64 d, .int .i64 e]) (.int .i64 2)).run Try.prog w = .ok (.int .i64 c) w := fun _ => by kernel_rfl
      by_cases p1 : c < 1
      · have e0 : Hid (okT a b c d e = false) := by show _ = _; rw [H.out, tl, okp_false (.inl p1)]; rfl
        clear H
        go_wp2
        go_ret
        exact ⟨congrArg (fun t => Ending.returned (.bool t)) e0.out.symm, ((Gw.refl _).alloc _).alloc _⟩
      · by_cases p2 : 10000 < c
        · have e0 : Hid (okT a b c d e = false) := by show _ = _; rw [H.out, tl, okp_false (.inr p2)]; rfl
          clear H
          go_wp2
          go_ret
          exact ⟨congrArg (fun t => Ending.returned (.bool t)) e0.out.symm, ((Gw.refl _).alloc _).alloc _⟩
        · have H' : Hid (okT a b c d e = tl a b c d e 3) := by
            show _ = _
            rw [H.out, tl, okp_true (by omega) (by omega)]; rfl
          clear H
          go_wp2
          go_round
          case rel => exact ⟨3, by omega, rfl, H'⟩
          case measure => simp [intOf]
    · have i3 : ∀ w, (Instr.index 67 (.agg #[.int .i64 a, .int .i64 b, .int .i64 c, .int .i64 d, .int .i64 e]) (.int .i64 3)).run Try.prog w = .ok (.int .i64 d) w := fun _ => by kernel_rfl
      by_cases p1 : d < 1
      · have e0 : Hid (okT a b c d e = false) := by show _ = _; rw [H.out, tl, okp_false (.inl p1)]; rfl
        clear H
        go_wp2
        go_ret
        exact ⟨congrArg (fun t => Ending.returned (.bool t)) e0.out.symm, ((Gw.refl _).alloc _).alloc _⟩
      · by_cases p2 : 10000 < d
        · have e0 : Hid (okT a b c d e = false) := by show _ = _; rw [H.out, tl, okp_false (.inr p2)]; rfl
          clear H
          go_wp2
          go_ret
          exact ⟨congrArg (fun t => Ending.returned (.bool t)) e0.out.symm, ((Gw.refl _).alloc _).alloc _⟩
        · have H' : Hid (okT a b c d e = tl a b c d e 4) := by
            show _ = _
            rw [H.out, tl, okp_true (by omega) (by omega)]; rfl
          clear H
          go_wp2
          go_round
          case rel => exact ⟨4, by omega, rfl, H'⟩
          case measure => simp [intOf]
    · have i4 : ∀ w, (Instr.index 67 (.agg #[.int .i64 a, .int .i64 b, .int .i64 c, .int .i64 d, .int .i64 e]) (.int .i64 4)).run Try.prog w = .ok (.int .i64 e) w := fun _ => by kernel_rfl
      by_cases p1 : e < 1
      · have e0 : Hid (okT a b c d e = false) := by show _ = _; rw [H.out, tl, okp_false (.inl p1)]; rfl
        clear H
        go_wp2
        go_ret
        exact ⟨congrArg (fun t => Ending.returned (.bool t)) e0.out.symm, ((Gw.refl _).alloc _).alloc _⟩
      · by_cases p2 : 10000 < e
        · have e0 : Hid (okT a b c d e = false) := by show _ = _; rw [H.out, tl, okp_false (.inr p2)]; rfl
          clear H
          go_wp2
          go_ret
          exact ⟨congrArg (fun t => Ending.returned (.bool t)) e0.out.symm, ((Gw.refl _).alloc _).alloc _⟩
        · have H' : Hid (okT a b c d e = tl a b c d e 5) := by
            show _ = _
            rw [H.out, tl, okp_true (by omega) (by omega)]; rfl
          clear H
          go_wp2
          go_round
          case rel => exact ⟨5, by omega, rfl, H'⟩
          case measure => simp [intOf]
    · have e0 : Hid (okT a b c d e = true) := H.out
      clear H
      go_wp2
      go_ret
      exact ⟨congrArg (fun t => Ending.returned (.bool t)) e0.out.symm, ((Gw.refl _).alloc _).alloc _⟩

set_option maxRecDepth 100000 in
theorem length_is (a b c d e n : Int) (w : World) : Calls Try.prog 11 #[.agg #[.int .i64 a, .int .i64 b, .int .i64 c, .int .i64 d, .int .i64 e], .int .i64 n] w fun x w' => x = .returned (.int .i64 (if n < 10 then c else d)) ∧ Gw w w' := by
  by_cases h : n < 10
  · rw [if_pos h]
    go_enter Try.func11, Try.ntmps11
    go_wp2
    go_ret
    exact ⟨rfl, (Gw.refl _).alloc _⟩
  · rw [if_neg h]
    go_enter Try.func11, Try.ntmps11
    go_wp2
    go_ret
    exact ⟨rfl, (Gw.refl _).alloc _⟩

/-- A distance's bits. -/
def dbits (d : Int) : Nat := if d < 1 then 0 else Lib.bitLen (d - 1).toNat
theorem dbits_le (d : Int) (h : d ≤ 9223372036854775807) : dbits d ≤ 64 := by
  unfold dbits
  split
  · omega
  · exact Lib.bitLen_le _ 64 (by omega) (by omega)

set_option maxRecDepth 100000 in
theorem dist_is (a b c d e n : Int) (he : 0 ≤ e ∧ e ≤ 10000) (hn : n ≤ 9223372036854775807) (w : World) : Calls Try.prog 12 #[.agg #[.int .i64 a, .int .i64 b, .int .i64 c, .int .i64 d, .int .i64 e], .int .i64 n] w fun x w' => x = .returned (.int .i64 (e * (dbits n : Nat))) ∧ Gw w w' := by
  have hb := dbits_le n hn
  have Hb := Lib.hid hb
  by_cases h : n < 1
  · have e0 : dbits n = 0 := by unfold dbits; rw [if_pos h]
    rw [e0]
    clear hb e0
    go_enter Try.func12, Try.ntmps12
    go_wp2
    go_ret
    exact ⟨by simp, (Gw.refl _).alloc _⟩
  · have e0 : dbits n = Lib.bitLen (n - 1).toNat := by unfold dbits; rw [if_neg h]
    have hm : IntKind.i64.wrap (e * ((Lib.bitLen (n - 1).toNat : Nat) : Int)) = e * ((Lib.bitLen (n - 1).toNat : Nat) : Int) := by
      rw [← e0]
      refine IntWalk.i64_in _ ?_
      generalize dbits n = q at *
      have h1 : (0 : Int) ≤ e * (q : Int) := Int.mul_nonneg he.1 (by omega)
      have h2 : e * (q : Int) ≤ 10000 * 64 := Int.mul_le_mul he.2 (by omega) (by omega) (by omega)
      omega
    have hs : IntKind.i64.wrap (n - 1) = n - 1 := IntWalk.i64_in _ (by omega)
    have hl := fun w => Try.bits_Len (n - 1) w (by omega) (by omega)
    rw [e0]
    clear hb e0
    generalize Lib.bitLen (n - 1).toNat = L at *
    have Hl := Lib.hid hl
    clear hl
    go_enter Try.func12, Try.ntmps12
    go_wp2_with fail
    go_quiet (first | (go_at_call 26; exact Calls.quiet_of_same (Hl.out _)))
    go_wp2
    go_ret
    exact ⟨rfl, ((Gw.refl _).alloc _).drewN _⟩
end Go.Proofs.Ytlkiijojldnlbaa
