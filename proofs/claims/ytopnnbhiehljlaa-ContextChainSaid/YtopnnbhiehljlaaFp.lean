/- Layer 5 (freq): sums, a sign is put. -/
import Derived.Test.YtopnnbhiehljlaaFt
import Derived.Deep.DrawnRows
namespace Go.Proofs.Ytopnnbhiehljlaa
set_option linter.unusedVariables false
open Go.RowKit Go.My
attribute [local go_sem ↓] Go.wp_at_zero Go.wp_at_succ

/-- A set of numbers as a set of signs. -/
def bySign (f : Nat → Bool) : UInt8 → Bool := fun b => f b.toNat

theorem upto_b {t : Fq.T} (hOk : t.Ok) (n : UInt8 → Bool) (i : Nat) (hi : i ≤ t.s.length) : (t.upto n i).1 ≤ 30720 ∧ (t.upto n i).2 ≤ 256 := by
  have h1 := Fq.T.upto_le hOk n i hi
  have h2 := hOk.size
  omega

set_option maxHeartbeats 4000000 in
set_option maxRecDepth 10000 in
theorem tab_sums (p : Nat) (t : Fq.T) (v1 v2 nv : Value) (f : Nat → Bool) (m : Nat) (w : World) (h : TabAt w p t v1 v2) (hOk : t.Ok) (hn : NotAt w nv f m) :
    Calls Try.prog 64 #[.pointer (some ⟨p, 0, none⟩), nv] w fun r w' => r = .returned (.tuple #[.int .u32 (t.all_ (bySign f) : Int), .int .u32 (t.rest (bySign f) : Int)]) ∧ w = w' := by
  obtain ⟨c0, c1, f0, f1⟩ := h.cells
  have hcl := hOk.len
  have hsz := hOk.size
  obtain ⟨a1, cp1, rfl, ha1⟩ := own_val h.s
  obtain ⟨a2, cp2, rfl, ha2⟩ := own_val h.c
  obtain ⟨L, hL⟩ : ∃ L, t.s.length = L := ⟨_, rfl⟩
  rw [hcl, hL] at c1 ha2
  rw [hL] at c0 ha1
  obtain ⟨A, hA⟩ : ∃ A, t.all_ (bySign f) = A := ⟨_, rfl⟩
  obtain ⟨R, hR⟩ : ∃ R, t.rest (bySign f) = R := ⟨_, rfl⟩
  rw [hA, hR]
  have hub := upto_b hOk (bySign f)
  have H := Lib.hid h
  have HOk := Lib.hid hOk
  have HN := Lib.hid hn
  have HL := Lib.hid hL
  have HA := Lib.hid hA
  have HR := Lib.hid hR
  have Ha1 := Lib.hid ha1
  have Ha2 := Lib.hid ha2
  have Hcl := Lib.hid hcl
  have Hub := Lib.hid hub
  have hLi : (L : Int) ≤ 256 := by omega
  clear h hOk hn hL hA hR ha1 ha2 hcl hsz f0 f1 hub
  go_enter Try.func64, Try.ntmps64
  go_wp2
  go_loop [4, 5, 15] (fun v4 v5 v15 => ∃ i a r : Nat, i ≤ L ∧ v15 = .int .i64 (i : Int) ∧ v4 = .int .u32 (a : Int) ∧ v5 = .int .u32 (r : Int) ∧ a ≤ 30720 ∧ r ≤ 256 ∧ Hid (t.upto (bySign f) i = (a, r))) (fun _ _ v15 => L - (intOf v15).toNat)
  case atStart => exact ⟨0, 0, 0, Nat.zero_le _, rfl, rfl, rfl, by omega, by omega, rfl⟩
  case round =>
    obtain ⟨i, a, r, hi, rfl, rfl, rfl, hab, hrb, HU⟩ := hrel
    have hai : (a : Int) ≤ 30720 := by omega
    have hri : (r : Int) ≤ 256 := by omega
    by_cases hlt : i < L
    · obtain ⟨g1, rfl⟩ := Ha1.out (by omega)
      obtain ⟨g2, rfl⟩ := Ha2.out (by omega)
      have hii : (i : Int) < (L : Int) := by omega
      have hi0 : (0 : Int) ≤ (i : Int) := by omega
      have hc : w.cell? ⟨g1, i, none⟩ = some (.int .u8 ((t.s.getD i 0).toNat : Int)) := by
        have hs := H.out.s
        rw [HL.out] at hs
        rw [World.ownsRow.cellAt hs i (by omega)]
        exact bytesV_get (by rw [HL.out]; exact hlt)
      have hd : w.cell? ⟨g2, i, none⟩ = some (.int .i64 ((t.c.getD i 0 : Nat) : Int)) := by
        have hs := H.out.c
        rw [Hcl.out, HL.out] at hs
        rw [World.ownsRow.cellAt hs i (by omega)]
        exact intsV_get (by rw [Hcl.out, HL.out]; exact hlt)
      have hpos := HOk.out.pos i (by rw [Hcl.out, HL.out]; exact hlt)
      have hnx : t.upto (bySign f) (i + 1) = if bySign f (t.s.getD i 0) then t.upto (bySign f) i else ((t.upto (bySign f) i).1 + t.c.getD i 0, (t.upto (bySign f) i).2 + 1) := rfl
      have hub := Hub.out (i + 1) (by rw [HL.out]; exact hlt)
      obtain ⟨b, hb⟩ : ∃ b, t.s.getD i 0 = b := ⟨_, rfl⟩
      obtain ⟨c, hcc⟩ : ∃ c, t.c.getD i 0 = c := ⟨_, rfl⟩
      rw [hb] at hc hnx
      rw [hcc] at hd hpos hnx
      rw [HU.out] at hnx
      have hhas := set_has nv f m b.toNat w HN.out b.toNat_lt
      obtain ⟨y, hy⟩ : ∃ y, b.toNat = y := ⟨_, rfl⟩
      have hyi : (y : Int) < 256 := by have := b.toNat_lt; omega
      have hci : (c : Int) ≤ 120 := by omega
      have hc1 : (1 : Int) ≤ (c : Int) := by omega
      rw [hy] at hc hhas
      have hbs : bySign f b = f y := by unfold bySign; rw [hy]
      rw [hbs] at hnx
      by_cases hf : f y = true
      · rw [hf] at hhas hnx
        have Hhas := Lib.hid hhas
        have Hnx : Hid (t.upto (bySign f) (i + 1) = (a, r)) := hnx
        clear hd hpos hnx hub hb hcc hy hbs hf hhas
        go_wp2_with (go_at_call 65; refine Hhas.out.mono ?_; rintro r5 w5 ⟨rfl, rfl⟩)
        go_round
        case rel => exact ⟨i + 1, a, r, by omega, by go_num, rfl, rfl, hab, hrb, Hnx⟩
        case measure => simp [intOf]; omega
      · have hff : f y = false := by simpa using hf
        rw [hff] at hhas hnx
        have hnx2 : t.upto (bySign f) (i + 1) = (a + c, r + 1) := hnx
        rw [hnx2] at hub
        dsimp only at hub
        have Hhas := Lib.hid hhas
        have Hnx := Lib.hid hnx2
        have hac : a + c ≤ 30720 := hub.1
        have hrc : r + 1 ≤ 256 := hub.2
        clear hpos hnx hub hb hcc hy hbs hf hff hhas hnx2
        go_wp2_with (go_at_call 65; refine Hhas.out.mono ?_; rintro r5 w5 ⟨rfl, rfl⟩)
        go_round
        case rel => exact ⟨i + 1, a + c, r + 1, by omega, by go_num, by go_num, by go_num, hac, hrc, Hnx⟩
        case measure => simp [intOf]; omega
    · obtain rfl : i = L := by omega
      have hfA : A = a := by rw [← HA.out]; unfold Fq.T.all_; rw [HL.out, HU.out]
      have hfR : R = max r 1 := by rw [← HR.out]; unfold Fq.T.rest; rw [HL.out, HU.out]
      subst hfA
      by_cases hr1 : 1 ≤ r
      · have hR2 : R = r := by omega
        subst hR2
        have hri1 : (1 : Int) ≤ (R : Int) := by omega
        clear hfR hr1
        go_wp2
        go_ret2
        exact ⟨rfl, rfl⟩
      · have hr0 : r = 0 := by omega
        have hR1 : R = 1 := by omega
        subst hr0 hR1
        clear hfR hr1
        go_wp2
        go_ret2
        exact ⟨rfl, rfl⟩
theorem tab_sums_nil (nv : Value) (w : World) : Calls Try.prog 64 #[.pointer none, nv] w fun r w' => r = .returned (.tuple #[.int .u32 0, .int .u32 1]) ∧ w = w' := by
  go_enter Try.func64, Try.ntmps64
  go_wp2
  go_ret2
  exact ⟨rfl, rfl⟩
end Go.Proofs.Ytopnnbhiehljlaa
