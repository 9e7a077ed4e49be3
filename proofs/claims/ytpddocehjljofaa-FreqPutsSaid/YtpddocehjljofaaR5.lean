/- The document's tables (cassoneref05): where a sign is. -/
import Derived.Test.YtpddocehjljofaaFa
import Derived.Test.YtpddocehjljofaaApq
import Derived.Test.YtpddocehjljofaaUp
namespace Go.Proofs.Ytpddocehjljofaa
set_option linter.unusedVariables false
open Go.RowKit Go.My

/-- The document's table as a value. -/
structure RTab (w : World) (r : Value) (t : Fq.T) : Prop where
  ex : ∃ A1 c1 A2 c2, r = .agg #[.slice A1 t.s.length c1, .slice A2 t.c.length c2] ∧ w.ownsRow 0 5 1 (.slice A1 t.s.length c1) t.s.length (bytesV t.s) ∧ w.ownsRow 0 3 1 (.slice A2 t.c.length c2) t.c.length (intsV t.c)
theorem RTab.keep {w w' : World} {r : Value} {t : Fq.T} (h : RTab w r t) (hf : Fr (fun _ => False) w w') : RTab w' r t := by
  obtain ⟨A1, c1, A2, c2, h1, h2, h3⟩ := h.ex
  exact ⟨A1, c1, A2, c2, h1, own_keep h2 hf (fun _ _ h => h), own_keep h3 hf (fun _ _ h => h)⟩

set_option maxHeartbeats 2000000 in
theorem ref_at (A1 : Option Addr) (k1 : Nat) (v2 : Value) (t : Fq.T) (x : UInt8) (w : World) (h : w.ownsRow 0 5 1 (.slice A1 t.s.length k1) t.s.length (bytesV t.s)) (h2 : v2.oneCell' = true) (hl : t.s.length ≤ 1000000) :
    Calls Try.prog 78 #[.agg #[.slice A1 t.s.length k1, v2], .int .u8 (x.toNat : Int)] w fun r w' => r = .returned (.int .i64 (atV t x)) ∧ Fr (fun _ => False) w w' := by
  obtain ⟨a, cap, hv, ha⟩ := own_val h
  obtain ⟨rfl, rfl⟩ : A1 = a ∧ k1 = cap := by injection hv with e1 e2 e3; exact ⟨e1, e3⟩
  obtain ⟨L, hL⟩ : ∃ L, t.s.length = L := ⟨_, rfl⟩
  rw [hL] at h hl ha ⊢
  have hli : (L : Int) ≤ 1000000 := by omega
  obtain ⟨y, hy⟩ : ∃ y, x.toNat = y := ⟨_, rfl⟩
  have hyi : (y : Int) < 256 := by have := x.toNat_lt; omega
  rw [hy]
  obtain ⟨R, hR⟩ : ∃ R, atV t x = R := ⟨_, rfl⟩
  rw [hR]
  have H := Lib.hid h
  have HL := Lib.hid hL
  have HY := Lib.hid hy
  have HR := Lib.hid hR
  have Ha := Lib.hid ha
  clear h hL hy hR ha hv
  have hwb := heap_alloc_new w (.cells #[.slice A1 L k1, v2] 89)
  have Hwb := Lib.hid hwb
  clear hwb
  go_enter Try.func78, Try.ntmps78
  go_upto_block 0 with fail
  obtain ⟨W, hW⟩ : ∃ W, w.alloc (.cells #[.slice A1 L k1, v2] 89) = W := ⟨_, rfl⟩
  have hF : Fr (fun _ => False) w W := by rw [← hW]; exact (Fr.refl _ _).alloc _
  rw [hW] at Hwb ⊢
  have c0 : W.cell? ⟨w.heap.size, 0, none⟩ = some (.slice A1 L k1) := (cell_of Hwb.out 0).trans rfl
  have HF := Lib.hid hF
  clear hW hF
  go_wp2
  go_loop [5] (fun v5 => ∃ i : Nat, i ≤ L ∧ v5 = .int .i64 (i : Int) ∧ Hid (i ≤ t.s.idxOf x)) (fun v5 => L - (intOf v5).toNat)
  case atStart => exact ⟨0, Nat.zero_le _, rfl, Nat.zero_le _⟩
  case round =>
    obtain ⟨i, hi, rfl, Hi⟩ := hrel
    by_cases hlt : i < L
    · obtain ⟨g, rfl⟩ := Ha.out (by omega)
      have hii : (i : Int) < (L : Int) := by omega
      have hi0 : (0 : Int) ≤ (i : Int) := by omega
      have hc : W.cell? ⟨g, i, none⟩ = some (.int .u8 ((t.s.getD i 0).toNat : Int)) := by
        have hs := own_keep (S := fun _ => False) H.out HF.out (fun _ _ h => h)
        rw [World.ownsRow.cellAt hs i (by omega)]
        exact bytesV_get (by rw [HL.out]; exact hlt)
      obtain ⟨b, hb⟩ : ∃ b, t.s.getD i 0 = b := ⟨_, rfl⟩
      rw [hb] at hc
      by_cases he : b = x
      · have hidx := Fq.idx_at t.s x i Hi.out (by rw [HL.out]; exact hlt) (hb.trans he)
        have hR : R = (i : Int) := by rw [← HR.out]; unfold atV; rw [hidx, HL.out, if_pos hlt]
        rw [he, HY.out] at hc
        have HRi := Lib.hid hR
        clear hb he hidx hR
        go_wp2
        go_ret
        exact ⟨by rw [HRi.out]; rfl, HF.out⟩
      · have hnx := Fq.idx_next t.s x i Hi.out (by rw [HL.out]; exact hlt) (by rw [hb]; exact he)
        have Hnx := Lib.hid hnx
        have hne : ((b.toNat : Int) == (y : Int)) = false := by
          rw [← HY.out]
          simp
          intro h
          exact he (UInt8.toNat_inj.1 (by omega))
        have hbi : (b.toNat : Int) < 256 := by have := b.toNat_lt; omega
        obtain ⟨z, hz⟩ : ∃ z, b.toNat = z := ⟨_, rfl⟩
        rw [hz] at hc hne hbi
        clear hb he hnx hz
        go_wp2
        go_round
        case rel => exact ⟨i + 1, by omega, by go_num, Hnx.out⟩
        case measure => simp [intOf]; omega
    · obtain rfl : i = L := by omega
      have hR : R = -1 := by rw [← HR.out]; unfold atV; rw [if_neg (by have := Hi.out; rw [HL.out]; omega)]
      have HRi := Lib.hid hR
      clear hR
      go_wp2
      go_ret
      exact ⟨by rw [HRi.out]; rfl, HF.out⟩
end Go.Proofs.Ytpddocehjljofaa
