/- Walks of layer 9 (state) and its reference. -/
import Derived.Test.YtfmoagdhajfngaaDoorProg
import Derived.Test.YtfmoagdhajfngaaDoorFr
import Derived.WalkKit
import Derived.Deep.QuietTactic
import Derived.BigQuiet
import Derived.KernelRfl
import Derived.Lib.Hide
import Derived.WalkSpells
import Derived.Deep.DeepCutAuto
namespace Go.Proofs.YtfmoagdhajfngaaDoor
open Go.RowKit Go.My

/-- The state behind a packet of a kind. -/
def nx (s k : Int) : Int :=
  if k = 1 then (if s < 4 then 0 else if s < 10 then s - 3 else s - 6)
  else if k < 2 ∨ 4 < k then s
  else if s < 7 then (if k = 2 then 7 else if k = 3 then 8 else 9) else (if k = 2 then 10 else 11)

/-- The table of states behind packets that copy. -/
structure Tab (w : World) : Prop where
  c4 : w.cell? ⟨0, 4, none⟩ = some (.int .i64 7)
  c5 : w.cell? ⟨0, 5, none⟩ = some (.int .i64 10)
  c6 : w.cell? ⟨0, 6, none⟩ = some (.int .i64 8)
  c7 : w.cell? ⟨0, 7, none⟩ = some (.int .i64 11)
  c8 : w.cell? ⟨0, 8, none⟩ = some (.int .i64 9)
  c9 : w.cell? ⟨0, 9, none⟩ = some (.int .i64 11)

set_option maxRecDepth 100000 in
theorem literal_is (s : Int) (w : World) : Calls Tryd.prog 8 #[.int .i64 s] w fun e w' => e = .returned (.bool (decide (s < 7))) ∧ w = w' := by
  go_enter Tryd.func8, Tryd.ntmps8
  go_wp2
  go_ret
  exact ⟨rfl, rfl⟩

set_option maxRecDepth 100000 in
theorem next_is (s k : Int) (hs : 0 ≤ s ∧ s ≤ 11) (w : World) (hT : Tab w) : Calls Tryd.prog 6 #[.int .i64 s, .int .i64 k] w fun e w' => e = .returned (.int .i64 (nx s k)) ∧ w = w' := by
  have H : Hid (nx s k = if k = 1 then (if s < 4 then 0 else if s < 10 then s - 3 else s - 6)
    else if k < 2 ∨ 4 < k then s
    else if s < 7 then (if k = 2 then 7 else if k = 3 then 8 else 9) else (if k = 2 then 10 else 11)) := rfl
  obtain ⟨h0, h11⟩ := hs
  obtain ⟨c4, c5, c6, c7, c8, c9⟩ := hT
  generalize nx s k = r at *
  by_cases k1 : k = 1
  · subst k1
    by_cases s4 : s < 4
    · obtain rfl : r = 0 := by rw [H.out, if_pos rfl, if_pos s4]
      clear H
      go_enter Tryd.func6, Tryd.ntmps6
      go_wp2
      go_ret
      exact ⟨rfl, rfl⟩
    · by_cases s10 : s < 10
      · obtain rfl : r = s - 3 := by rw [H.out, if_pos rfl, if_neg s4, if_pos s10]
        clear H
        go_enter Tryd.func6, Tryd.ntmps6
        go_wp2
        go_ret
        exact ⟨rfl, rfl⟩
      · obtain rfl : r = s - 6 := by rw [H.out, if_pos rfl, if_neg s4, if_neg s10]
        clear H
        go_enter Tryd.func6, Tryd.ntmps6
        go_wp2
        go_ret
        exact ⟨rfl, rfl⟩
  · by_cases kb : k < 2 ∨ 4 < k
    · obtain rfl : r = s := by rw [H.out, if_neg k1, if_pos kb]
      have hk : (k == 1) = false := by simpa using k1
      clear H k1
      rcases kb with kb | kb
      · go_enter Tryd.func6, Tryd.ntmps6
        go_wp2
        go_ret
        exact ⟨rfl, rfl⟩
      · have : ¬ k < 2 := by omega
        go_enter Tryd.func6, Tryd.ntmps6
        go_wp2
        go_ret
        exact ⟨rfl, rfl⟩
    · obtain hk : k = 2 ∨ k = 3 ∨ k = 4 := by omega
      rcases hk with rfl | rfl | rfl
      all_goals
        by_cases s7 : s < 7
        · simp [s7] at H
          obtain rfl := H.out
          clear H k1 kb
          go_enter Tryd.func6, Tryd.ntmps6
          go_wp2
          go_ret
          exact ⟨rfl, rfl⟩
        · simp [s7] at H
          obtain rfl := H.out
          clear H k1 kb
          go_enter Tryd.func6, Tryd.ntmps6
          go_wp2
          go_ret
          exact ⟨rfl, rfl⟩

set_option maxRecDepth 100000 in
theorem refnext_is (s k : Int) (hs : 0 ≤ s ∧ s ≤ 11) (w : World) : Calls Tryd.prog 7 #[.int .i64 s, .int .i64 k] w fun e w' => e = .returned (.int .i64 (nx s k)) ∧ w = w' := by
  obtain ⟨h0, h11⟩ := hs
  go_enter Tryd.func7, Tryd.ntmps7
  go_wp2
  all_goals go_ret
  all_goals refine ⟨congrArg (fun t => Ending.returned (.int .i64 t)) ?_, rfl⟩
  all_goals simp only [beq_iff_eq, beq_eq_false_iff_ne, ne_eq] at *
  all_goals unfold nx
  all_goals (repeat' split)
  all_goals omega
end Go.Proofs.YtfmoagdhajfngaaDoor
