/- Layer 5 (freq): a sign is put by a table. -/
import Derived.Test.YtopnnbhiehljlaaFp
namespace Go.Proofs.Ytopnnbhiehljlaa
set_option linter.unusedVariables false
open Go.RowKit Go.My

set_option maxHeartbeats 4000000 in
set_option maxRecDepth 10000 in
theorem tab_put (p pe : Nat) (v : Value) (ops : List Rc.Op) (t : Fq.T) (v1 v2 nv : Value) (f : Nat → Bool) (m : Nat) (x : UInt8) (w : World) (h : TabAt w p t v1 v2) (hOk : t.Ok) (he : EncO w pe v ops) (hops : ops.length ≤ 90000000) (hn : NotAt w nv f m) :
    Calls Try.prog 54 #[.pointer (some ⟨p, 0, none⟩), .pointer (some ⟨pe, 0, none⟩), .int .u8 (x.toNat : Int), nv] w fun r w' => r = .returned (.bool (t.isIn x (bySign f))) ∧ ∃ v', EncO w' pe v' (ops ++ [t.putOp x (bySign f)]) ∧ Step w w' (encFoot pe v) (encFoot pe v') := by
  have hsum := tab_sums p t v1 v2 nv f m w h hOk hn
  have hat := tab_at p t v1 v2 x w h (by have := hOk.size; omega)
  have hfine := Fq.T.putOp_fine hOk x (bySign f)
  have htot := Fq.T.tot_le hOk (bySign f)
  have hhx := set_has nv f m x.toNat w hn x.toNat_lt
  have hcl := hOk.len
  have hsz := hOk.size
  obtain ⟨B, hB⟩ : ∃ B, x.toNat = B := ⟨_, rfl⟩
  obtain ⟨A, hA⟩ : ∃ A, t.all_ (bySign f) = A := ⟨_, rfl⟩
  obtain ⟨R, hR⟩ : ∃ R, t.rest (bySign f) = R := ⟨_, rfl⟩
  rw [hA, hR] at hsum htot
  have hBi : (B : Int) < 256 := by have := x.toNat_lt; omega
  have hAi : (A : Int) ≤ 30720 := by omega
  have hRi : (R : Int) ≤ 256 := by omega
  have hbx : bySign f x = f B := by unfold bySign; rw [hB]
  rw [hB] at hat hhx ⊢
  have Hsum := Lib.hid hsum
  by_cases hin : t.isIn x (bySign f) = true
  · have hop : t.putOp x (bySign f) = .part (t.upto (bySign f) (t.s.idxOf x)).1 (t.c.getD (t.s.idxOf x) 0) (A + R) := by unfold Fq.T.putOp; rw [if_pos hin, hA, hR]
    rw [hin]
    simp only [Fq.T.isIn, Bool.and_eq_true, decide_eq_true_eq, Bool.not_eq_true'] at hin
    obtain ⟨hi1, hi2⟩ := hin
    rw [hbx] at hi2
    rw [hi2] at hhx
    rw [atV_in hi1] at hat
    obtain ⟨c0, c1, f0, f1⟩ := h.cells
    obtain ⟨a1, cp1, rfl, ha1⟩ := own_val h.s
    obtain ⟨a2, cp2, rfl, ha2⟩ := own_val h.c
    obtain ⟨g1, rfl⟩ := ha1 (by omega)
    obtain ⟨g2, rfl⟩ := ha2 (by omega)
    have hub := upto_b hOk (bySign f)
    have hpos := hOk.pos
    obtain ⟨I, hI⟩ : ∃ I, t.s.idxOf x = I := ⟨_, rfl⟩
    rw [hI] at hi1 hat hop
    obtain ⟨C, hC⟩ : ∃ C, t.c.getD I 0 = C := ⟨_, rfl⟩
    obtain ⟨U, hU⟩ : ∃ U, (t.upto (bySign f) I).1 = U := ⟨_, rfl⟩
    rw [hU, hC] at hop
    rw [hop] at hfine ⊢
    have hCp := hpos I (by omega)
    rw [hC] at hCp
    have hpart := part_ops pe v ops U C (A + R) w he (by omega) hfine
    rw [show ((A + R : Nat) : Int) = (A : Int) + (R : Int) by omega] at hpart
    obtain ⟨L, hL⟩ : ∃ L, t.s.length = L := ⟨_, rfl⟩
    rw [hcl, hL] at c1
    rw [hL] at c0
    have hos := h.s
    have hoc := h.c
    rw [hL] at hos
    rw [hcl, hL] at hoc
    have hcI : w.cell? ⟨g2, I, none⟩ = some (.int .i64 (C : Int)) := by
      rw [World.ownsRow.cellAt hoc I (by omega), intsV_get (by omega), hC]
    have hcap : L ≤ cp1 := by
      obtain ⟨_, h2 | ⟨g, cap, cur, e1, _, _, e2, _⟩⟩ := hos
      · simp at h2
      · injection e1 with _ _ e3; omega
    have hIi : (I : Int) < (L : Int) := by omega
    have hIc : (I : Int) ≤ (cp1 : Int) := by omega
    have hI0 : (0 : Int) ≤ (I : Int) := by omega
    have hCi : (C : Int) ≤ 120 := by omega
    have hC1 : (1 : Int) ≤ (C : Int) := by omega
    have hLi : (L : Int) ≤ 256 := by omega
    have Hat := Lib.hid hat
    have Hhx := Lib.hid hhx
    have Hpart := Lib.hid hpart
    have Hos := Lib.hid hos
    have Hoc := Lib.hid hoc
    have HN := Lib.hid hn
    have Hub := Lib.hid hub
    have Hpos := Lib.hid hpos
    have Hcl := Lib.hid hcl
    have HL := Lib.hid hL
    have HU := Lib.hid hU
    clear hsum hat hfine htot hhx hcl hsz hB hA hR hbx hop hi2 f0 f1 ha1 ha2 hub hpos hI hC hU hCp hpart hL hos hoc h hOk he hops hn
    go_enter Try.func54, Try.ntmps54
    go_upto_region 7 with (first
      | (go_at_call 64; refine Hsum.out.mono ?_; rintro r w1 ⟨rfl, rfl⟩)
      | (go_at_call 34; refine Hat.out.mono ?_; rintro r w1 ⟨rfl, rfl⟩)
      | (go_at_call 65; refine Hhx.out.mono ?_; rintro r w1 ⟨rfl, rfl⟩))
    go_wp2
    go_loop [12, 45] (fun v12 v45 => ∃ i a : Nat, i ≤ I ∧ v45 = .int .i64 (i : Int) ∧ v12 = .int .u32 (a : Int) ∧ a ≤ 30720 ∧ Hid ((t.upto (bySign f) i).1 = a)) (fun _ v45 => I - (intOf v45).toNat)
    case atStart => exact ⟨0, 0, Nat.zero_le _, rfl, rfl, by omega, rfl⟩
    case round =>
      obtain ⟨i, a, hi, rfl, rfl, hab, HUi⟩ := hrel
      have hai : (a : Int) ≤ 30720 := by omega
      by_cases hlt : i < I
      · have hii : (i : Int) < (I : Int) := by omega
        have hi0 : (0 : Int) ≤ (i : Int) := by omega
        have hiL : (i : Int) < (L : Int) := by omega
        have hc : w.cell? ⟨g1, i, none⟩ = some (.int .u8 ((t.s.getD i 0).toNat : Int)) := by
          rw [World.ownsRow.cellAt Hos.out i (by omega)]
          exact bytesV_get (by rw [HL.out]; omega)
        have hd : w.cell? ⟨g2, i, none⟩ = some (.int .i64 ((t.c.getD i 0 : Nat) : Int)) := by
          rw [World.ownsRow.cellAt Hoc.out i (by omega)]
          exact intsV_get (by rw [Hcl.out, HL.out]; omega)
        have hps := Hpos.out i (by rw [Hcl.out, HL.out]; omega)
        have hnx : t.upto (bySign f) (i + 1) = if bySign f (t.s.getD i 0) then t.upto (bySign f) i else ((t.upto (bySign f) i).1 + t.c.getD i 0, (t.upto (bySign f) i).2 + 1) := rfl
        have hub := (Hub.out (i + 1) (by rw [HL.out]; omega)).1
        obtain ⟨b, hb⟩ : ∃ b, t.s.getD i 0 = b := ⟨_, rfl⟩
        obtain ⟨c, hcc⟩ : ∃ c, t.c.getD i 0 = c := ⟨_, rfl⟩
        rw [hb] at hc hnx
        rw [hcc] at hd hps hnx
        have hhas := set_has nv f m b.toNat w HN.out b.toNat_lt
        obtain ⟨y, hy⟩ : ∃ y, b.toNat = y := ⟨_, rfl⟩
        have hyi : (y : Int) < 256 := by have := b.toNat_lt; omega
        have hci : (c : Int) ≤ 120 := by omega
        have hc1 : (1 : Int) ≤ (c : Int) := by omega
        rw [hy] at hc hhas
        have hbs : bySign f b = f y := by unfold bySign; rw [hy]
        rw [hbs] at hnx
        by_cases hf : f y = true
        · rw [hf] at hhas hnx
          have hnx2 : (t.upto (bySign f) (i + 1)).1 = a := by rw [hnx]; exact HUi.out
          have Hhas := Lib.hid hhas
          have Hnx := Lib.hid hnx2
          clear hd hps hnx hub hb hcc hy hbs hf hhas hnx2
          go_wp2_with (go_at_call 65; refine Hhas.out.mono ?_; rintro r5 w5 ⟨rfl, rfl⟩)
          go_round
          case rel => exact ⟨i + 1, a, by omega, by go_num, rfl, hab, Hnx⟩
          case measure => simp [intOf]; omega
        · have hff : f y = false := by simpa using hf
          rw [hff] at hhas hnx
          have hnx2 : (t.upto (bySign f) (i + 1)).1 = a + c := by rw [hnx]; simp only [Bool.false_eq_true, if_false]; rw [HUi.out]
          rw [hnx2] at hub
          have Hhas := Lib.hid hhas
          have Hnx := Lib.hid hnx2
          clear hps hnx hb hcc hy hbs hf hff hhas hnx2
          go_wp2_with (go_at_call 65; refine Hhas.out.mono ?_; rintro r5 w5 ⟨rfl, rfl⟩)
          go_round
          case rel => exact ⟨i + 1, a + c, by omega, by go_num, by go_num, hub, Hnx⟩
          case measure => simp [intOf]; omega
      · obtain rfl : i = I := by omega
        obtain rfl : a = U := HUi.out.symm.trans HU.out
        go_wp2_with (go_at_call 66; refine Hpart.out.mono ?_; rintro r5 w5 ⟨rfl, v5, h1, h2⟩; have H1 := Lib.hid h1; have H2 := Lib.hid h2; clear h1 h2)
        go_ret
        exact ⟨rfl, v5, H1.out, H2.out⟩
  · have hop : t.putOp x (bySign f) = .part A R (A + R) := by unfold Fq.T.putOp; rw [if_neg hin, hA, hR]
    rw [hop] at hfine ⊢
    rw [show t.isIn x (bySign f) = false by simpa using hin]
    have hpart := part_ops pe v ops A R (A + R) w he (by omega) hfine
    rw [show ((A + R : Nat) : Int) = (A : Int) + (R : Int) by omega] at hpart
    have Hpart := Lib.hid hpart
    by_cases hix : t.s.idxOf x < t.s.length
    · have hfB : f B = true := by
        simp only [Fq.T.isIn, hix, decide_true, Bool.true_and, hbx] at hin
        simpa using hin
      rw [hfB] at hhx
      rw [atV_in hix] at hat
      obtain ⟨I, hI⟩ : ∃ I, t.s.idxOf x = I := ⟨_, rfl⟩
      rw [hI] at hat hix
      have hI0 : (0 : Int) ≤ (I : Int) := by omega
      have Hat := Lib.hid hat
      have Hhx := Lib.hid hhx
      clear hsum hat hfine htot hhx hcl hsz hB hA hR hbx hop h hOk he hops hn hpart hix hfB hI hin
      go_enter Try.func54, Try.ntmps54
      go_wp2_with (first
        | (go_at_call 64; refine Hsum.out.mono ?_; rintro r w1 ⟨rfl, rfl⟩)
        | (go_at_call 34; refine Hat.out.mono ?_; rintro r w1 ⟨rfl, rfl⟩)
        | (go_at_call 65; refine Hhx.out.mono ?_; rintro r w1 ⟨rfl, rfl⟩)
        | (go_at_call 66; refine Hpart.out.mono ?_; rintro r5 w5 ⟨rfl, v5, h1, h2⟩; have H1 := Lib.hid h1; have H2 := Lib.hid h2; clear h1 h2))
      go_ret
      exact ⟨rfl, v5, H1.out, H2.out⟩
    · rw [atV_out hix] at hat
      have Hat := Lib.hid hat
      clear hsum hat hfine htot hhx hcl hsz hB hA hR hbx hop h hOk he hops hn hpart hix hin
      go_enter Try.func54, Try.ntmps54
      go_wp2_with (first
        | (go_at_call 64; refine Hsum.out.mono ?_; rintro r w1 ⟨rfl, rfl⟩)
        | (go_at_call 34; refine Hat.out.mono ?_; rintro r w1 ⟨rfl, rfl⟩)
        | (go_at_call 66; refine Hpart.out.mono ?_; rintro r5 w5 ⟨rfl, v5, h1, h2⟩; have H1 := Lib.hid h1; have H2 := Lib.hid h2; clear h1 h2))
      go_ret
      exact ⟨rfl, v5, H1.out, H2.out⟩
end Go.Proofs.Ytopnnbhiehljlaa
