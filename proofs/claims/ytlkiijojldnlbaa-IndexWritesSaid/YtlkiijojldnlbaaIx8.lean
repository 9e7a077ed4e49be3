/- Layer 27 (index): good and Encode of any entries. -/
import Derived.Test.YtlkiijojldnlbaaIx7
import Derived.Deep.DeepCutAuto
namespace Go.Proofs.Ytlkiijojldnlbaa
set_option linter.unusedVariables false
open Go.RowKit Go.My Go.Ix

abbrev Ents := List (List UInt8 × List UInt8)
theorem ent_cell {w : World} {B T g n cap : Nat} {L : Ents} (h : w.ownsRow B T 2 (.slice (some ⟨g, 0, none⟩) n cap) L.length (entsV L)) (k : Nat) (hk : k < L.length) :
    w.cell? ⟨g, k * 2, none⟩ = some (.string ⟨(L[k]).1.toArray⟩) ∧ w.cell? ⟨g, k * 2 + 1, none⟩ = some (.string ⟨(L[k]).2.toArray⟩) := by
  have hg := entsV_get L k hk
  have h1 := World.ownsRow.cells h (g := g) rfl (k * 2) _ hg.1
  have h2 := World.ownsRow.cells h (g := g) rfl (k * 2 + 1) _ hg.2
  have pl : ∀ j, (⟨g, 0, none⟩ : Addr).add j = ⟨g, j, none⟩ := fun j => by unfold Addr.add; split <;> simp_all
  rw [pl] at h1 h2
  exact ⟨h1, h2⟩
/-- Entries that may be. -/
def Gd (L : Ents) : Prop := (∀ (k : Nat) (h : k < L.length), (L[k]).1.length ≤ 1024) ∧ L.length ≤ 1024
/-- Small enough for all sums. -/
def Small (L : Ents) : Prop := ∀ (k : Nat) (h : k < L.length), (L[k]).1.length ≤ 2000 ∧ (L[k]).2.length ≤ 200

set_option maxHeartbeats 4000000 in
set_option maxRecDepth 100000 in
theorem good_is (L : Ents) (n : Nat) (hn : L.length = n) (hb : n ≤ 1100) (hx : Small L) (ok : Bool) (hok : ok = true ↔ Gd L) (B : Nat) (v : Value) (w : World) (ho : w.ownsRow B 54 2 v n (entsV L)) :
    Calls Try.prog 30 #[v] w fun e w' => e = .returned (.bool ok) ∧ Fr (fun _ => False) w w' := by
  obtain ⟨a, p, hv⟩ := own_any ho
  subst hv
  have hbI : (n : Int) ≤ 1100 := by omega
  have Ho := Lib.hid ho
  have Hn := Lib.hid hn
  have Hx := Lib.hid hx
  have Hok := Lib.hid hok
  clear ho hn hx hok
  go_enter Try.func30, Try.ntmps30
  go_upto_region 3 with fail
  go_wp2
  go_loopw [3, 5, 8] (fun v3 _ v8 wr => ∃ i s : Nat, i ≤ n ∧ s ≤ 200 * i ∧ v8 = .int .i64 (i : Int) ∧ v3 = .int .i64 (s : Int) ∧ Hid (∀ (k : Nat) (h : k < L.length), k < i → (L[k]).1.length ≤ 1024) ∧ Hid (Fr (fun _ => False) w wr)) (fun _ _ v8 _ => n - (intOf v8).toNat)
  case atStart => exact ⟨0, 0, Nat.zero_le _, Nat.le_refl _, rfl, rfl, fun k h h0 => absurd h0 (Nat.not_lt_zero _), Fr.refl _ _⟩
  case round =>
    obtain ⟨i, s, hi, hs, rfl, rfl, KG, KF⟩ := hrel
    by_cases hlt : i < n
    · have hI : (i : Int) < (n : Int) := by omega
      have hi0 : (0 : Int) ≤ (i : Int) := by omega
      have hkL : i < L.length := by rw [Hn.out]; exact hlt
      have r1 := own_keep Ho.out KF.out (fun _ _ x => x)
      obtain ⟨g, c, e1⟩ := own_slice r1 (by omega)
      injection e1 with e1 _ _
      subst e1
      rw [← Hn.out] at r1
      obtain ⟨c0, c1⟩ := ent_cell r1 i hkL
      have hsm := Hx.out i hkL
      obtain ⟨X, hX⟩ : ∃ X, (⟨(L[i]'hkL).1.toArray⟩ : ByteArray) = X := ⟨_, rfl⟩
      obtain ⟨Y, hY⟩ : ∃ Y, (⟨(L[i]'hkL).2.toArray⟩ : ByteArray) = Y := ⟨_, rfl⟩
      have zX : X.size = (L[i]'hkL).1.length := by rw [← hX]; rfl
      have zY : Y.size = (L[i]'hkL).2.length := by rw [← hY]; rfl
      rw [← zX, ← zY] at hsm
      rw [hX] at c0
      rw [hY] at c1
      clear r1 hX hY zY
      have ZX := Lib.hid zX
      clear zX
      have hYb : (Y.size : Int) ≤ 200 := by omega
      have hXb : (X.size : Int) ≤ 2000 := by omega
      have em : IntKind.i64.wrap (16777216 - (s : Int)) = 16777216 - (s : Int) := IntWalk.i64_in _ (by omega)
      have ea : IntKind.i64.wrap ((s : Int) + (Y.size : Int)) = ((s + Y.size : Nat) : Int) := by rw [IntWalk.i64_in _ (by omega)]; omega
      have hYI : ¬ 16777216 - (s : Int) < (Y.size : Int) := by omega
      by_cases h1 : X.size ≤ 1024
      · have hXI : ¬ (1024 : Int) < (X.size : Int) := by omega
        go_wp2
        go_roundw
        case rel =>
          refine ⟨i + 1, s + Y.size, by omega, by omega, by go_num, by first | rfl | (rw [ea]) | go_num, ?_, KF.out.alloc _⟩
          intro k h hk
          rcases Nat.lt_or_ge k i with hlt2 | hge
          · exact KG.out k h hlt2
          · obtain rfl : k = i := by omega
            rw [← ZX.out]; exact h1
        case measure => simp [intOf]; omega
      · have hXI : (1024 : Int) < (X.size : Int) := by omega
        go_wp2
        go_ret
        refine ⟨?_, KF.out.alloc _⟩
        have hf : ok = false := by
          rcases Bool.eq_false_or_eq_true ok with h | h
          · have := (Hok.out.1 h).1 i hkL
            rw [← ZX.out] at this
            omega
          · exact h
        rw [hf]
        rfl
    · obtain rfl : i = n := by omega
      clear hlt hi
      have hoki : decide ((i : Int) ≤ 1024) = ok := by
        rcases Bool.eq_false_or_eq_true ok with h | h
        · have := (Hok.out.1 h).2
          rw [Hn.out] at this
          rw [h]
          exact decide_eq_true (by omega)
        · rw [h]
          refine decide_eq_false (fun h2 => ?_)
          have : ok = true := Hok.out.2 ⟨fun k hk => KG.out k hk (by have := Hn.out; omega), by rw [Hn.out]; omega⟩
          rw [h] at this
          cases this
      go_wp2
      go_ret
      exact ⟨by first | rfl | rw [hoki] | simp [hoki], KF.out⟩
end Go.Proofs.Ytlkiijojldnlbaa
