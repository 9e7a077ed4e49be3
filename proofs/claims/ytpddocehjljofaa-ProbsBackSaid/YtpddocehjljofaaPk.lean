/- ProbsBack: the walk of the law. -/
import Derived.Test.YtpddocehjljofaaFo
import Derived.Test.YtpddocehjljofaaPb
import Derived.Test.YtpddocehjljofaaPp
import Derived.Test.YtpddocehjljofaaOpp
import Derived.Deep.DrawnRows
namespace Go.Proofs.Ytpddocehjljofaa
set_option linter.unusedVariables false
open Go.RowKit Go.My
attribute [local go_sem ↓] Go.wp_at_zero Go.wp_at_succ

theorem new1024' (w : World) : Calls Try.prog 37 #[.int .i64 10] w fun r w' => r = .returned (.slice (some ⟨w.heap.size, 0, none⟩) 1024 1024) ∧ TrAt w' w.heap.size (List.replicate 1024 1024) ∧ Fr (fun _ => False) w w' := tree_new 10 10 (by decide) (by decide) w

set_option maxHeartbeats 8000000 in
set_option maxRecDepth 100000 in
theorem probsBack_walk (a : Nat) (ha : a < 256) (f : Nat → Nat × Nat) (hf : ∀ i, (f i).1 < 256 ∧ (f i).2 < 256) (A : Option Addr) (len cap : Nat) (hlen : len ≤ 9223372036854775807) (w : World)
    (hat : ∀ i, i < len → ∃ b off, A = some ⟨b, off, none⟩ ∧ B2At w b (off + i * 2) (f i)) :
    Calls Try.prog 8 #[.int .u8 (a : Int), .slice A len cap] w fun r w' => r = .returned (.bool true) ∧ Fr (fun _ => False) w w' := by
  have Hat := Lib.hid hat
  have Hf := Lib.hid hf
  obtain ⟨N, hN⟩ : ∃ N, 1 + a % 8 = N := ⟨_, rfl⟩
  have hNi : (1 : Int) + (a : Int) % 8 = (N : Int) := by omega
  have hN8 : N ≤ 8 := by omega
  have hN1 : 1 ≤ N := by omega
  have hN8i : (N : Int) ≤ 8 := by omega
  have hN1i : (1 : Int) ≤ (N : Int) := by omega
  have hai : (a : Int) < 256 := by omega
  obtain ⟨M, hM⟩ : ∃ M, 2 ^ N = M := ⟨_, rfl⟩
  have hM256 : M ≤ 256 := by rw [← hM]; have : (2 : Nat) ^ N ≤ 2 ^ 8 := Nat.pow_le_pow_right (by decide) hN8; exact this
  have hM2 : 2 ≤ M := by rw [← hM]; have : (2 : Nat) ^ 1 ≤ 2 ^ N := Nat.pow_le_pow_right (by decide) hN1; exact this
  have hnew : ∀ w, _ := fun w => tree_new (N : Int) N (by omega) (by omega) w
  have hpl := Rc.Pl.new (2 ^ N)
  have hpl2 := Rc.Pl.new 1024
  rw [hM] at hnew hpl
  obtain ⟨T0, hT0⟩ : ∃ T0, List.replicate M 1024 = T0 := ⟨_, rfl⟩
  obtain ⟨C0, hC0⟩ : ∃ T0, List.replicate 1024 1024 = T0 := ⟨_, rfl⟩
  have hnc : ∀ w, _ := fun w => new1024' w
  rw [hT0] at hnew hpl
  rw [hC0] at hnc hpl2
  have HM := Lib.hid hM
  have Hnew := Lib.hid hnew
  have Hnc := Lib.hid hnc
  have htri : Rc.Tri N M T0 T0 C0 := ⟨hpl, hpl, hpl2⟩
  have hok := Rc.seqB_ok htri hM.symm hN1 f
  have hpre := Rc.seqB_prefix N M f T0 T0 C0
  have hnx : ∀ i, Rc.seqB N M f T0 T0 C0 (i + 1) = ((Rc.seqB N M f T0 T0 C0 i).1 ++ (Rc.put3 N M (f i) (Rc.seqB N M f T0 T0 C0 i).2.1 (Rc.seqB N M f T0 T0 C0 i).2.2.1 (Rc.seqB N M f T0 T0 C0 i).2.2.2).1, (Rc.put3 N M (f i) (Rc.seqB N M f T0 T0 C0 i).2.1 (Rc.seqB N M f T0 T0 C0 i).2.2.1 (Rc.seqB N M f T0 T0 C0 i).2.2.2).2) := fun _ => rfl
  have hq0 : Rc.seqB N M f T0 T0 C0 0 = ([], T0, T0, C0) := rfl
  obtain ⟨SQ, hSQ⟩ : ∃ SQ, Rc.seqB N M f T0 T0 C0 = SQ := ⟨_, rfl⟩
  rw [hSQ] at hok hpre hnx hq0
  have Hok := Lib.hid hok
  have Hpre := Lib.hid hpre
  have Hnx := Lib.hid hnx
  have Hq0 := Lib.hid hq0
  have hMi : (M : Int) ≤ 256 := by omega
  have hM2i : (2 : Int) ≤ (M : Int) := by omega
  have hMd : decide ((M : Int) < 2) = false := by simp; omega
  clear hM hnew hpl hpl2 hT0 hC0 hnc htri hat hf hN hok hpre hnx hq0 hSQ
  go_enter Try.func8, Try.ntmps8
  go_upto_region 3 with (go_at_call 36; refine (speaks04 _).mono ?_; rintro r w1 ⟨rfl, h1⟩; have HF1 := Lib.hid h1; have HT1 := Lib.hid (Trees.nil w w1); clear h1)
  go_upto_region 4 with fail
  try rw [hNi]
  clear hNi hai
  go_upto_region 6 with (first
    | (go_at_call 37; (with_reducible refine (Hnew.out w1).mono ?_); rintro r w2 ⟨rfl, h1, h2⟩; have HT2 := Lib.hid (HT1.out.snoc HF1.out.size h1 h2); have HF2 := Lib.hid (HF1.out.trans h2 (fun _ h => h.elim)); clear h1 h2)
    | (go_at_call 37; (with_reducible refine (Hnew.out w2).mono ?_); rintro r w3 ⟨rfl, h1, h2⟩; have HT3 := Lib.hid (HT2.out.snoc HF2.out.size h1 h2); have HF3 := Lib.hid (HF2.out.trans h2 (fun _ h => h.elim)); clear h1 h2)
    | (go_at_call 37; (with_reducible refine (Hnc.out w3).mono ?_); rintro r w4 ⟨rfl, h1, h2⟩; have HT4 := Lib.hid (HT3.out.snoc HF3.out.size h1 h2); have HF4 := Lib.hid (HF3.out.trans h2 (fun _ h => h.elim)); clear h1 h2)
    | (go_at_call 37; (with_reducible refine (Hnew.out w4).mono ?_); rintro r w5 ⟨rfl, h1, h2⟩; have HT5 := Lib.hid (HT4.out.snoc HF4.out.size h1 h2); have HF5 := Lib.hid (HF4.out.trans h2 (fun _ h => h.elim)); clear h1 h2)
    | (go_at_call 37; (with_reducible refine (Hnew.out w5).mono ?_); rintro r w6 ⟨rfl, h1, h2⟩; have HT6 := Lib.hid (HT5.out.snoc HF5.out.size h1 h2); have HF6 := Lib.hid (HF5.out.trans h2 (fun _ h => h.elim)); clear h1 h2)
    | (go_at_call 37; (with_reducible refine (Hnc.out w6).mono ?_); rintro r w7 ⟨rfl, h1, h2⟩; have HT7 := Lib.hid (HT6.out.snoc HF6.out.size h1 h2); have HF7 := Lib.hid (HF6.out.trans h2 (fun _ h => h.elim)); clear h1 h2))
  go_upto_region 9 with (go_at_call 13; refine (enc_new w7).mono ?_; rintro r w8 ⟨rfl, h1, h2⟩; have HE8 := Lib.hid h1; have HT8 := Lib.hid (HT7.out.keep h2); have HF8 := Lib.hid (HF7.out.trans h2 (fun _ h => h.elim)); clear h1 h2)
  have hst : ∃ pe b0 b1 b2 b3 b4 b5, w7.heap.size = pe ∧ w1.heap.size = b0 ∧ w2.heap.size = b1 ∧ w3.heap.size = b2 ∧ w4.heap.size = b3 ∧ w5.heap.size = b4 ∧ w6.heap.size = b5 ∧ ForE w w8 pe (.slice none 0 0) [] [b0, b1, b2, b3, b4, b5] [T0, T0, C0, T0, T0, C0] := by
    refine ⟨_, _, _, _, _, _, _, rfl, rfl, rfl, rfl, rfl, rfl, rfl, HE8.out, HT8.out, HF8.out, ?_⟩
    rintro k (rfl | hk)
    · exact HF7.out.size
    · cases hk
  obtain ⟨pe, b0, b1, b2, b3, b4, b5, e0, e1, e2, e3, e4, e5, e6, hst⟩ := hst
  rw [e0, e1, e2, e3, e4, e5, e6]
  have Hst := Lib.hid hst
  clear hst e0 e1 e2 e3 e4 e5 e6 HE8 HT8 HF8 HT7 HF7 HT6 HF6 HT5 HF5 HT4 HF4 HT3 HF3 HT2 HF2 HT1
  rw [show ([] : List Rc.Op) = (SQ 0).1 by rw [Hq0.out], show [T0, T0, C0, T0, T0, C0] = [(SQ 0).2.1, (SQ 0).2.2.1, (SQ 0).2.2.2, T0, T0, C0] by rw [Hq0.out]] at Hst
  go_upto_block 0 with fail
  go_cut [13] (fun _ wx => ∃ v, Hid (ForE w wx pe v (SQ (min len 40)).1 [b0, b1, b2, b3, b4, b5] [(SQ (min len 40)).2.1, (SQ (min len 40)).2.2.1, (SQ (min len 40)).2.2.2, T0, T0, C0]))
  case first =>
    go_wp2
    go_loopw [13] (fun v13 wr => ∃ (i : Nat) (v : Value), i ≤ len ∧ i ≤ 40 ∧ v13 = .int .i64 (i : Int) ∧ Hid (ForE w wr pe v (SQ i).1 [b0, b1, b2, b3, b4, b5] [(SQ i).2.1, (SQ i).2.2.1, (SQ i).2.2.2, T0, T0, C0])) (fun v13 _ => 40 - (intOf v13).toNat)
    case atStart => exact ⟨0, _, Nat.zero_le _, by omega, rfl, Hst.out⟩
    case round =>
      obtain ⟨i, v, hi, hi2, rfl, HS⟩ := hrel
      clear Hst
      by_cases hlt : i < len ∧ i < 40
      · obtain ⟨hl1, hl2⟩ := hlt
        obtain ⟨eb, off, rfl, hx⟩ := Hat.out i hl1
        have hfi := Hf.out i
        have hok := Hok.out i
        have hnx := Hnx.out i
        obtain ⟨x, hxx⟩ : ∃ x, (f i).1 = x := ⟨_, rfl⟩
        obtain ⟨y, hyy⟩ : ∃ x, (f i).2 = x := ⟨_, rfl⟩
        rw [show f i = (x, y) from Prod.ext hxx hyy] at hx hfi hnx
        obtain ⟨O, P, Q, R, hq⟩ : ∃ O P Q R, SQ i = (O, P, Q, R) := ⟨_, _, _, _, rfl⟩
        rw [hq] at HS hok hnx
        dsimp only at HS hok hnx hfi
        obtain ⟨ho1, ho2, ho3⟩ := hok
        have c0 := HS.out.fr.cell_ hx.c0 (fun h => h)
        have c1 := HS.out.fr.cell_ hx.c1 (fun h => h)
        dsimp only at c0 c1
        obtain ⟨z, hz⟩ : ∃ z, x % M = z := ⟨_, rfl⟩
        have hzi : (x : Int) % (M : Int) = (z : Int) := by rw [← hz]; simp
        have hzM : z < M := by rw [← hz]; exact Nat.mod_lt _ (by omega)
        have hxi : (x : Int) < 256 := by omega
        have hyi : (y : Int) < 256 := by omega
        have hz256 : (z : Int) < 256 := by omega
        have hii : (i : Int) < 40 := by omega
        have hi0 : (0 : Int) ≤ (i : Int) := by omega
        have hll : (i : Int) < (len : Int) := by omega
        have hoL : O.length ≤ 1200 := by rw [ho3]; have : (N + N + 8) * i ≤ 24 * 40 := Nat.mul_le_mul (by omega) (by omega); omega
        have hl1a : (Rc.putT P 1 (Rc.bitsHi z N)).1.length ≤ 8 := by
          have r1 : Rc.Room 1 N (Rc.bitsHi z N).length := by rw [Rc.bitsHi_len]; exact Rc.Room.start N hN1
          have := (Rc.putT_pl ho2.a (by rw [HM.out]; exact Nat.le_refl _) r1 (Rc.bitsHi_two _ _)).2.2
          rw [this, Rc.bitsHi_len]; exact hN8
        have hl2a : (Rc.putT Q 1 (Rc.bitsLo z 0 N)).1.length ≤ 8 := by
          have r1 : Rc.Room 1 N (Rc.bitsLo z 0 N).length := by rw [Rc.bitsLo_len]; exact Rc.Room.start N hN1
          have := (Rc.putT_pl ho2.b (by rw [HM.out]; exact Nat.le_refl _) r1 (Rc.bitsLo_two _ _ _)).2.2
          rw [this, Rc.bitsLo_len]; exact hN8
        have Hl1a := Lib.hid hl1a
        have Hl2a := Lib.hid hl2a
        have Hx := Lib.hid hx
        have Hfi := Lib.hid hfi
        have Hz := Lib.hid hz
        have Ho2 := Lib.hid ho2
        have HoL := Lib.hid hoL
        have Hl1 := Lib.hid hl1
        have Hnxi := Lib.hid hnx
        have hp1 := tree_put pe v O b0 P M N M M z wr HS.out.enc (by omega) (HS.out.trees.tr 0 (by simp)) ho2.a (by omega) hN1 HM.out.symm (Nat.le_refl _) (by omega)
        have Hp1 := Lib.hid hp1
        have HzM := Lib.hid hzM
        clear hx hfi hnx hxx hyy hq ho1 ho2 ho3 hz hzM hoL hl1a hl2a hp1
        go_upto_region 14 with (go_at_call 40; refine Hp1.out.mono ?_; rintro r5 w6 ⟨rfl, h1⟩; obtain ⟨v6, h2⟩ := HS.out.put 0 (by simp) h1; have HS6 := Lib.hid h2; have hp2 := tree_put_back pe v6 _ b1 Q M N M M z w6 h2.enc (by rw [List.length_append]; have := HoL.out; have := Hl1a.out; omega) (h2.trees.tr 1 (by simp)) Ho2.out.b (by omega) hN1 HM.out.symm (Nat.le_refl _) (by have := HzM.out; omega); have Hp2 := Lib.hid hp2; clear h1 h2 hp2)
        go_upto_region 15 with (go_at_call 39; refine Hp2.out.mono ?_; rintro r5 w7 ⟨rfl, h1⟩; obtain ⟨v7, h2⟩ := HS6.out.put 1 (by simp) h1; have HS7 := Lib.hid h2; have hp3 := put_like pe v7 _ b2 R 1024 1024 1024 x y w7.drew (h2.fresh (Fr.refl _ _).drew).enc (by rw [List.length_append, List.length_append]; have := HoL.out; have := Hl1a.out; have := Hl2a.out; omega) ((h2.fresh (Fr.refl _ _).drew).trees.tr 2 (by simp)) Ho2.out.c (by decide) (by decide) Hfi.out.1 Hfi.out.2; have Hp3 := Lib.hid hp3; clear h1 h2 hp3)
        clear c0 c1
        have c0 : w7.cell? ⟨eb, off + i * 2, none⟩ = some (.int .u8 (x : Int)) := HS7.out.fr.cell_ Hx.out.c0 (fun h => h)
        have c1 : w7.cell? ⟨eb, off + i * 2 + 1, none⟩ = some (.int .u8 (y : Int)) := HS7.out.fr.cell_ Hx.out.c1 (fun h => h)
        clear hlen hi hi2 hl1 hl2
        go_still_tail 12, (by kernel_rfl)
        go_wp2_with (go_at_call 42; refine Hp3.out.mono ?_; rintro r5 w8 ⟨rfl, h1⟩; obtain ⟨v8, h2⟩ := (HS7.out.fresh (Fr.refl _ _).drew).put 2 (by simp) h1; have HS8 := Lib.hid h2; clear h1 h2)
        go_roundw
        case rel => exact ⟨i + 1, v8, Hl1.out, by omega, by go_num, by rw [Hnxi.out]; show ForE _ _ _ _ (O ++ (Rc.put3 N M (x, y) P Q R).1) _ _; unfold Rc.put3; rw [Hz.out, ← List.append_assoc, ← List.append_assoc]; exact HS8.out⟩
        case measure => simp [intOf]; omega
      · have hN : i = min len 40 := by omega
        rw [hN] at HS
        by_cases hl : i < len
        · have hl' : decide (i < len) = true := by simpa using hl
          have h80 : decide ((i : Int) < 40) = false := by simp; omega
          clear hlt hN hi hi2 hl
          go_wp2
          go_meet
          exact ⟨v, HS⟩
        · have hl' : decide (i < len) = false := by simpa using hl
          clear hlt hN hi hi2 hl
          go_wp2
          go_meet
          exact ⟨v, HS⟩
  case rest =>
    obtain ⟨v, HS⟩ := hcut
    clear Hst
    obtain ⟨K, hK⟩ : ∃ K, min len 40 = K := ⟨_, rfl⟩
    have hKl : K ≤ len := by omega
    have hK40 : K ≤ 40 := by omega
    rw [hK] at HS
    obtain ⟨O, P, Q, R, hq⟩ : ∃ O P Q R, SQ K = (O, P, Q, R) := ⟨_, _, _, _, rfl⟩
    have hok := Hok.out K
    rw [hq] at HS hok
    dsimp only at HS hok
    obtain ⟨ho1, ho2, ho3⟩ := hok
    have hoL : O.length ≤ 1200 := by rw [ho3]; have : (N + N + 8) * K ≤ 24 * 40 := Nat.mul_le_mul (by omega) hK40; omega
    have hB := Rc.bytes_is ho1
    have hend := end_ops pe v O wc HS.out.enc (by omega)
    have hBl : (Rc.bytes O).length ≤ 1000000000 := by
      rw [hB.l]
      have := run_k Rc.A.start O
      have h0 : Rc.A.start.k = 0 := rfl
      omega
    obtain ⟨B, hBB⟩ : ∃ B, Rc.bytes O = B := ⟨_, rfl⟩
    rw [hBB] at hB hend hBl
    have Hend := Lib.hid hend
    have HB := Lib.hid hB
    have HBl := Lib.hid hBl
    have Ho1 := Lib.hid ho1
    have Ho2 := Lib.hid ho2
    have Hq := Lib.hid hq
    have HK := Lib.hid hK
    clear hq ho1 ho2 ho3 hoL hB hend hBl hBB hK
    go_upto_region 17 with (first
      | (go_at_call 22; refine Hend.out.mono ?_; rintro r w5 ⟨rfl, h2⟩; have HS5 := Lib.hid (HS.out.fresh h2); clear h2)
      | (go_at_call 24; refine (dec_new B w5 HBl.out).mono ?_; rintro r w6 ⟨rfl, h1, h3, h2⟩; have HD6 : Hid (ForD w w6 w5.heap.size (Rc.D.read B) [b0, b1, b2, b3, b4, b5] [P, Q, R, T0, T0, C0]) := ⟨h1, h3, HS5.out.trees.keep h2, HS5.out.fr.trans h2 (fun _ h => h.elim), HS5.out.fr.size⟩; clear h1 h2 h3))
    obtain ⟨pd, hpd⟩ : ∃ pd, w5.heap.size = pd := ⟨_, rfl⟩
    rw [hpd] at HD6 ⊢
    have hrel0 : Rc.RelD B [] (Rc.D.read B) (Rc.A.start.run (SQ 0).1) := by
      rw [Hq0.out]
      have := HB.out.start Ho1.out []
      rw [List.append_nil] at this
      exact this
    have Hrel0 := Lib.hid hrel0
    clear hpd hrel0 HS HS5 Hend
    rw [show [P, Q, R, T0, T0, C0] = [P, Q, R, (SQ 0).2.1, (SQ 0).2.2.1, (SQ 0).2.2.2] by rw [Hq0.out]] at HD6
    go_upto_block 2 with fail
    go_cut [16] (fun _ wx => ∃ d, Hid (ForD w wx pd d [b0, b1, b2, b3, b4, b5] [P, Q, R, (SQ K).2.1, (SQ K).2.2.1, (SQ K).2.2.2]) ∧ Hid (Rc.RelD B [] d (Rc.A.start.run (SQ K).1)))
    case first =>
      go_wp2
      go_loopw [16] (fun v16 wr => ∃ (i : Nat) (d : Rc.D), i ≤ K ∧ v16 = .int .i64 (i : Int) ∧ Hid (ForD w wr pd d [b0, b1, b2, b3, b4, b5] [P, Q, R, (SQ i).2.1, (SQ i).2.2.1, (SQ i).2.2.2]) ∧ Hid (Rc.RelD B [] d (Rc.A.start.run (SQ i).1))) (fun v16 _ => 40 - (intOf v16).toNat)
      case atStart => exact ⟨0, _, Nat.zero_le _, rfl, HD6.out, Hrel0.out⟩
      case round =>
        obtain ⟨i, d, hi, rfl, HS, HR⟩ := hrel
        clear HD6 Hrel0
        by_cases hlt : i < K
        · have hl1 : i < len := by omega
          have hl2 : i < 40 := by omega
          obtain ⟨eb, off, rfl, hx⟩ := Hat.out i hl1
          have hfi := Hf.out i
          have hok := Hok.out i
          have hnx := Hnx.out i
          have hin : Rc.In B (Rc.A.start.run (SQ (i + 1)).1) := by
            obtain ⟨l, hl⟩ := Hpre.out (i + 1) K hlt
            rw [Hq.out] at hl
            dsimp only at hl
            have h1 := HB.out
            have h2 := Ho1.out
            rw [hl] at h1 h2
            exact h1.in_ h2
          rw [hnx, Rc.A.run_append] at hin
          obtain ⟨x, hxx⟩ : ∃ x, (f i).1 = x := ⟨_, rfl⟩
          obtain ⟨y, hyy⟩ : ∃ x, (f i).2 = x := ⟨_, rfl⟩
          rw [show f i = (x, y) from Prod.ext hxx hyy] at hx hfi hnx hin
          obtain ⟨O2, P2, Q2, R2, hq⟩ : ∃ O P Q R, SQ i = (O, P, Q, R) := ⟨_, _, _, _, rfl⟩
          rw [hq] at HS HR hok hnx hin
          dsimp only at HS HR hok hnx hfi hin
          obtain ⟨ho1, ho2, ho3⟩ := hok
          have hgot := Rc.got3 ho2 HM.out.symm hN1 hfi.1 HR.out (Rc.A.Good.start.run ho1) hin
          have c0 := HS.out.fr.cell_ hx.c0 (fun h => h)
          have c1 := HS.out.fr.cell_ hx.c1 (fun h => h)
          dsimp only at c0 c1
          obtain ⟨z, hz⟩ : ∃ z, x % M = z := ⟨_, rfl⟩
          have hzi : (x : Int) % (M : Int) = (z : Int) := by rw [← hz]; simp
          have hxi : (x : Int) < 256 := by omega
          have hyi : (y : Int) < 256 := by omega
          have hzM : z < M := by rw [← hz]; exact Nat.mod_lt _ (by omega)
          have hz256 : (z : Int) < 256 := by omega
          have hii : (i : Int) < 40 := by omega
          have hi0 : (0 : Int) ≤ (i : Int) := by omega
          have hll : (i : Int) < (len : Int) := by omega
          have hne : ((z : Int) != (z : Int)) = false := by simp
          have hne2 : ((x : Int) != (x : Int)) = false := by simp
          have hg1 := tree_get pd d b3 P2 M N M M wr.drew (HS.out.fresh (Fr.refl _ _).drew).dec HS.out.g ((HS.out.fresh (Fr.refl _ _).drew).trees.tr 3 (by simp)) ho2.a (by omega) hN1 HM.out.symm (Nat.le_refl _)
          rw [hgot.g1, hgot.t1] at hg1
          have hgot2 := hgot.g2
          dsimp only at hg1 hgot2
          rw [hz] at hg1 hgot2
          have Hgot := Lib.hid hgot
          have Hgot2 := Lib.hid hgot2
          have Hg1 := Lib.hid hg1
          have Hx := Lib.hid hx
          have Hfi := Lib.hid hfi
          have Ho2b := Lib.hid ho2
          have Hnxi := Lib.hid hnx
          have Hl := Lib.hid hlt
          clear hx hfi hnx hxx hyy hq ho1 ho2 ho3 hz hzM hgot hgot2 hg1 hin hlt hlen hi hl1 hl2 hKl
          go_upto_region 21 with fail
          rw [hzi]
          clear hzi
          go_region_held3 (fun w' => w'.cell? ⟨eb, off + i * 2, none⟩ = some (.int .u8 (x : Int)) ∧ w'.cell? ⟨eb, off + i * 2 + 1, none⟩ = some (.int .u8 (y : Int))) (go_keep) (first
            | (go_at_call 44; refine Hg1.out.mono ?_; rintro r5 w6 ⟨rfl, h1⟩; have HS6 := Lib.hid ((HS.out.fresh (Fr.refl _ _).drew).get 3 (by simp) h1); have d0 : w6.cell? ⟨eb, off + i * 2, none⟩ = some (.int .u8 (x : Int)) := HS6.out.fr.cell_ Hx.out.c0 (fun h => h); have d1 : w6.cell? ⟨eb, off + i * 2 + 1, none⟩ = some (.int .u8 (y : Int)) := HS6.out.fr.cell_ Hx.out.c1 (fun h => h); have hg2 := tree_get_back pd _ b4 Q2 M N M M w6 HS6.out.dec HS6.out.g (HS6.out.trees.tr 4 (by simp)) Ho2b.out.b (by omega) hN1 HM.out.symm (Nat.le_refl _); rw [Hgot2.out, Hgot.out.t2] at hg2; have Hg2 := Lib.hid hg2; clear h1 hg2)
            | (go_at_call 45; refine Hg2.out.mono ?_; rintro r5 w7 ⟨rfl, h1⟩; have HS7 := Lib.hid (HS6.out.get 4 (by simp) h1); have e0 : w7.cell? ⟨eb, off + i * 2, none⟩ = some (.int .u8 (x : Int)) := HS7.out.fr.cell_ Hx.out.c0 (fun h => h); have e1 : w7.cell? ⟨eb, off + i * 2 + 1, none⟩ = some (.int .u8 (y : Int)) := HS7.out.fr.cell_ Hx.out.c1 (fun h => h); have hg3 := get_like pd _ b5 R2 1024 1024 1024 y w7 HS7.out.dec HS7.out.g (HS7.out.trees.tr 5 (by simp)) Ho2b.out.c (by decide) (by decide) Hfi.out.2; rw [Hgot.out.g3, Hgot.out.t3] at hg3; have Hg3 := Lib.hid hg3; clear h1 hg3)
            | (go_at_call 46; refine Hg3.out.mono ?_; rintro r5 w8 ⟨rfl, h1⟩; have HS8 := Lib.hid (HS7.out.get 5 (by simp) h1); have f0 : w8.cell? ⟨eb, off + i * 2, none⟩ = some (.int .u8 (x : Int)) := HS8.out.fr.cell_ Hx.out.c0 (fun h => h); have f1 : w8.cell? ⟨eb, off + i * 2 + 1, none⟩ = some (.int .u8 (y : Int)) := HS8.out.fr.cell_ Hx.out.c1 (fun h => h); clear h1))
          all_goals go_wp2
          all_goals go_roundw
          all_goals first | (simp [intOf]; omega) | skip
          all_goals exact ⟨i + 1, _, Hl.out, by go_num, by rw [Hnxi.out]; exact HS8, by rw [Hnxi.out, Rc.A.run_append]; exact Hgot.out.rel⟩
        · have hN : i = K := by omega
          rw [hN] at HS HR
          have hKi : min len 40 = K := HK.out
          by_cases hl : i < len
          · have hl' : decide (i < len) = true := by simpa using hl
            have h80 : decide ((i : Int) < 40) = false := by simp; omega
            clear hlt hN hi hl hKi hKl hK40
            go_wp2
            go_meet
            exact ⟨d, HS, HR⟩
          · have hl' : decide (i < len) = false := by simpa using hl
            clear hlt hN hi hl hKi hKl hK40
            go_wp2
            go_meet
            exact ⟨d, HS, HR⟩
    case rest =>
      obtain ⟨d, HS, HR⟩ := hcut
      rw [Hq.out] at HS HR
      dsimp only at HS HR
      have hdone := HB.out.done HR.out
      have Hdone := Lib.hid hdone
      clear HD6 Hrel0 HR hdone hlen
      go_upto_block 4 with fail
      go_cut [18] (fun _ wx => Hid (ForD w wx pd d [b0, b1, b2, b3, b4, b5] [P, Q, R, P, Q, R]))
      case first =>
        go_wp2
        go_loopw [18] (fun v18 wr => ∃ i : Nat, i ≤ M ∧ v18 = .int .i64 (i : Int) ∧ Hid (ForD w wr pd d [b0, b1, b2, b3, b4, b5] [P, Q, R, P, Q, R])) (fun v18 _ => M - (intOf v18).toNat)
        case atStart => exact ⟨0, Nat.zero_le _, rfl, HS.out⟩
        case round =>
          obtain ⟨i, hi, rfl, HS2⟩ := hrel
          clear HS
          by_cases hlt : i < M
          · have hii : (i : Int) < (M : Int) := by omega
            have hi0 : (0 : Int) ≤ (i : Int) := by omega
            have ha : wr.cell? ⟨b0, i, none⟩ = _ := (HS2.out.trees.tr 0 (by simp)).get (k := i) (by show i < P.length; rw [Ho2.out.a.len]; exact hlt)
            have hb : wr.cell? ⟨b1, i, none⟩ = _ := (HS2.out.trees.tr 1 (by simp)).get (k := i) (by show i < Q.length; rw [Ho2.out.b.len]; exact hlt)
            have hp : wr.cell? ⟨b3, i, none⟩ = _ := (HS2.out.trees.tr 3 (by simp)).get (k := i) (by show i < P.length; rw [Ho2.out.a.len]; exact hlt)
            have hq : wr.cell? ⟨b4, i, none⟩ = _ := (HS2.out.trees.tr 4 (by simp)).get (k := i) (by show i < Q.length; rw [Ho2.out.b.len]; exact hlt)
            obtain ⟨x, hx⟩ : ∃ x, P.getD i 0 = x := ⟨_, rfl⟩
            obtain ⟨y, hy⟩ : ∃ x, Q.getD i 0 = x := ⟨_, rfl⟩
            have ha : wr.cell? ⟨b0, i, none⟩ = some (.int .u16 (x : Int)) := by rw [← hx]; exact ha
            have hb : wr.cell? ⟨b1, i, none⟩ = some (.int .u16 (y : Int)) := by rw [← hy]; exact hb
            have hp : wr.cell? ⟨b3, i, none⟩ = some (.int .u16 (x : Int)) := by rw [← hx]; exact hp
            have hq : wr.cell? ⟨b4, i, none⟩ = some (.int .u16 (y : Int)) := by rw [← hy]; exact hq
            have hne : ((x : Int) != (x : Int)) = false := by simp
            have hne2 : ((y : Int) != (y : Int)) = false := by simp
            clear hx hy
            go_upto_region 26 with fail
            go_quiet (fail)
            go_wp2
            go_roundw
            case rel => exact ⟨i + 1, by omega, by go_num, HS2.out.fresh ((Fr.refl _ _).drewN _)⟩
            case measure => simp [intOf]; omega
          · obtain rfl : i = M := by omega
            go_wp2
            go_meet
            exact HS2
      case rest =>
        have HS2 : Hid (ForD w wc pd d [b0, b1, b2, b3, b4, b5] [P, Q, R, P, Q, R]) := hcut
        clear HS hcut
        go_upto_block 6 with fail
        go_cut [19] (fun _ wx => Hid (ForD w wx pd d [b0, b1, b2, b3, b4, b5] [P, Q, R, P, Q, R]))
        case first =>
          go_wp2
          go_loopw [19] (fun v19 wr => ∃ i : Nat, i ≤ 768 ∧ v19 = .int .i64 (i : Int) ∧ Hid (ForD w wr pd d [b0, b1, b2, b3, b4, b5] [P, Q, R, P, Q, R])) (fun v19 _ => 768 - (intOf v19).toNat)
          case atStart => exact ⟨0, Nat.zero_le _, rfl, HS2.out⟩
          case round =>
            obtain ⟨i, hi, rfl, HS3⟩ := hrel
            clear HS2
            by_cases hlt : i < 768
            · have hii : (i : Int) < 768 := by omega
              have hi24 : (i : Int) < 1024 := by omega
              have hi0 : (0 : Int) ≤ (i : Int) := by omega
              have ha : wr.cell? ⟨b2, i, none⟩ = _ := (HS3.out.trees.tr 2 (by simp)).get (k := i) (by show i < R.length; rw [Ho2.out.c.len]; omega)
              have hp : wr.cell? ⟨b5, i, none⟩ = _ := (HS3.out.trees.tr 5 (by simp)).get (k := i) (by show i < R.length; rw [Ho2.out.c.len]; omega)
              obtain ⟨x, hx⟩ : ∃ x, R.getD i 0 = x := ⟨_, rfl⟩
              have ha : wr.cell? ⟨b2, i, none⟩ = some (.int .u16 (x : Int)) := by rw [← hx]; exact ha
              have hp : wr.cell? ⟨b5, i, none⟩ = some (.int .u16 (x : Int)) := by rw [← hx]; exact hp
              have hne : ((x : Int) != (x : Int)) = false := by simp
              clear hx
              go_upto_region 31 with fail
              go_quiet (fail)
              go_wp2
              go_roundw
              case rel => exact ⟨i + 1, by omega, by go_num, HS3.out.fresh ((Fr.refl _ _).drewN _)⟩
              case measure => simp [intOf]; omega
            · obtain rfl : i = 768 := by omega
              go_wp2
              go_meet
              exact HS3
        case rest =>
          have HS3 : Hid (ForD w wc pd d [b0, b1, b2, b3, b4, b5] [P, Q, R, P, Q, R]) := hcut
          clear HS2 hcut
          have hd1 := dec_done pd d wc HS3.out.dec
          have hd2 := dec_bad pd d wc HS3.out.dec
          rw [Hdone.out.1] at hd1
          rw [Hdone.out.2] at hd2
          have hd1 : Calls Try.prog 30 #[.pointer (some ⟨pd, 0, none⟩)] wc fun r w' => r = .returned (.bool true) ∧ wc = w' := hd1
          have Hd1 := Lib.hid hd1
          have Hd2 := Lib.hid hd2
          have hn0 : ∀ w, Calls Try.prog 37 #[.int .i64 0] w fun r w' => r = .returned (.slice (some ⟨w.heap.size, 0, none⟩) 1 1) ∧ TrAt w' w.heap.size (List.replicate 1 1024) ∧ Fr (fun _ => False) w w' := fun w => tree_new 0 0 (by decide) (by decide) w
          have hn5 : ∀ w, Calls Try.prog 37 #[.int .i64 (-5)] w fun r w' => r = .returned (.slice (some ⟨w.heap.size, 0, none⟩) 1 1) ∧ TrAt w' w.heap.size (List.replicate 1 1024) ∧ Fr (fun _ => False) w w' := fun w => tree_new (-5) 0 (by decide) (by decide) w
          have hn40 : ∀ w, Calls Try.prog 37 #[.int .i64 40] w fun r w' => r = .returned (.slice (some ⟨w.heap.size, 0, none⟩) 65536 65536) ∧ TrAt w' w.heap.size (List.replicate (2 ^ 16) 1024) ∧ Fr (fun _ => False) w w' := fun w => tree_new 40 16 (by decide) (by decide) w
          have Hn0 := Lib.hid hn0
          have Hn5 := Lib.hid hn5
          have Hn40 := Lib.hid hn40
          clear hd1 hd2 hn0 hn5 hn40
          go_wp2_with (first
            | (go_at_call 30; refine Hd1.out.mono ?_; rintro r w3 ⟨rfl, rfl⟩)
            | (go_at_call 29; refine Hd2.out.mono ?_; rintro r w3 ⟨rfl, rfl⟩)
            | (go_at_call 37; (with_reducible refine (Hn0.out wc).mono ?_); rintro r w4 ⟨rfl, h1, h2⟩; have HF4 := Lib.hid (HS3.out.fr.trans h2 (fun _ h => h.elim)); clear h1 h2)
            | (go_at_call 37; (with_reducible refine (Hn5.out w4).mono ?_); rintro r w5 ⟨rfl, h1, h2⟩; have HF5 := Lib.hid (HF4.out.trans h2 (fun _ h => h.elim)); clear h1 h2)
            | (go_at_call 37; (with_reducible refine (Hn40.out w5).mono ?_); rintro r w6 ⟨rfl, h1, h2⟩; have HF6 := Lib.hid (HF5.out.trans h2 (fun _ h => h.elim)); clear h1 h2))
          go_ret
          exact ⟨rfl, HF6.out⟩
end Go.Proofs.Ytpddocehjljofaa
