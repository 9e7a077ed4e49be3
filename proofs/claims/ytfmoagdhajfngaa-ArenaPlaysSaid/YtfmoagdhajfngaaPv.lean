/- ArenaPlays: the walk of the law. -/
import Derived.Test.YtfmoagdhajfngaaPu
import Derived.Test.YtfmoagdhajfngaaAs
import Derived.Deep.CutBlock
import Derived.BigQuiet
import Derived.Deep.RegionLaw
import Derived.Deep.RegionHeld3
import Derived.Deep.RegionWith
set_option linter.unusedVariables false
set_option linter.unusedSimpArgs false
namespace Go.Proofs.Ytfmoagdhajfngaa
open Go.RowKit Go.My Go.Maps

/-- An act's three cells. -/
structure ActA (w : World) (b o i : Nat) (what at' val : Int) : Prop where
  c0 : w.cell? ⟨b, o + i * 3, none⟩ = some (.int .u8 what)
  c1 : w.cell? ⟨b, o + i * 3 + 1, none⟩ = some (.int .i64 at')
  c2 : w.cell? ⟨b, o + i * 3 + 2, none⟩ = some (.int .i64 val)
  r0 : 0 ≤ what ∧ what < 256
  r1 : -9223372036854775808 ≤ at' ∧ at' ≤ 9223372036854775807
  r2 : -9223372036854775808 ≤ val ∧ val ≤ 9223372036854775807

set_option maxRecDepth 100000 in
theorem i_newZ (B : Nat) (cells : Int) (hn : cells ≤ 9223372036854775807) (w : World) (hB : B ≤ w.heap.size) :
    Calls Try.prog 26 #[.int .i64 cells] w fun e w' => e = .returned (.pointer (some ⟨w.heap.size, 0, none⟩)) ∧ Ar 76 78 79 B w' w.heap.size cells.toNat (.slice none 0 0) (.slice none 0 0) [] [] ∧ Fr (fun _ => False) w w' ∧ w' = w.alloc (.cells #[.int .i64 ((cells.toNat : Nat) : Int), .slice none 0 0, .slice none 0 0] 76) := by
  have hF := Ar.fresh (tA := 76) (tC := 78) (tP := 79) (B := B) w cells.toNat (by omega) hB
  have HF := Lib.hid hF
  clear hF hB
  by_cases h0 : cells < 0
  · have hm : max cells 0 = ((0 : Nat) : Int) := by omega
    obtain ⟨n, hn2⟩ : ∃ n, cells.toNat = n := ⟨_, rfl⟩
    obtain rfl : n = 0 := by omega
    rw [hn2] at HF ⊢
    clear hn hn2
    go_enter Try.func26, Try.ntmps26
    go_wp2
    go_ret
    exact ⟨rfl, HF.out, (Fr.refl _ _).alloc _, rfl⟩
  · obtain ⟨n, rfl⟩ := Int.eq_ofNat_of_zero_le (show 0 ≤ cells by omega)
    have hm : max (n : Int) 0 = (n : Int) := by omega
    simp only [Int.toNat_natCast] at HF ⊢
    clear hn
    go_enter Try.func26, Try.ntmps26
    go_wp2
    go_ret
    exact ⟨rfl, HF.out, (Fr.refl _ _).alloc _, rfl⟩

theorem PlS.start {T R : Nat} {w w2 : World} {p : Nat} (hA : Ar 76 78 79 T w2 p R (.slice none 0 0) (.slice none 0 0) [] []) (hf : Fr (fun k => T ≤ k) w w2) (hT : T ≤ w2.heap.size) :
    PlS T w ((w2.alloc (.map #[] 0)).alloc (.map #[] 0)) p R w2.heap.size (w2.heap.size + 1) 0 0 (.slice none 0 0) (.slice none 0 0) (.slice none 0 0) [] [] [] (fun _ => false) (fun _ => 0) := by
  have h1 := MapB.made w2
  have h2 := MapI.made (w2.alloc (.map #[] 0))
  have e1 : (w2.alloc (.map #[] 0)).heap.size = w2.heap.size + 1 := by simp
  rw [e1] at h2
  refine ⟨(hA.alloc _).alloc _, ⟨rfl, .inl ⟨rfl, rfl⟩⟩, fun g hg => by simp [Value.ownBlock] at hg, h1.same ?_, h2, hT, by omega, by omega, (hf.alloc _).alloc _, by simp; omega⟩
  exact Below.heap_alloc _ _ _ (by simp)
theorem made55 (W : World) : (Instr.makeMap 55 none).run Try.prog W = .ok (.map (some W.heap.size)) (W.alloc (.map #[] 0)) := run_makeMap _ W
theorem made56 (W : World) : (Instr.makeMap 56 none).run Try.prog W = .ok (.map (some W.heap.size)) (W.alloc (.map #[] 0)) := run_makeMap _ W

set_option maxHeartbeats 40000000 in
set_option maxRecDepth 100000 in
theorem arenaPlays_walk (cells : Int) (b off len cap : Nat) (hcl : -9223372036854775808 ≤ cells ∧ cells ≤ 9223372036854775807) (hlen : len ≤ 9223372036854775807) (w : World) (hb : b < w.heap.size)
    (hc : ∀ i, i < len → ∃ what at' val, ActA w b off i what at' val) :
    Calls Try.prog 8 #[.int .i64 cells, .slice (some ⟨b, off, none⟩) len cap] w fun e w' => e = .returned (.bool true) ∧ Fr (fun k => w.heap.size ≤ k) w w' := by
  obtain ⟨hcl0, hcl1⟩ := hcl
  have Hc := Lib.hid hc
  obtain ⟨T, hT⟩ : ∃ T, w.heap.size = T := ⟨_, rfl⟩
  rw [hT] at hb ⊢
  have hsp := speaks17 w
  rw [hT] at hsp
  have HSp := Lib.hid hsp
  have Hb := Lib.hid hb
  have hnw := fun W hW => i_newZ T cells hcl1 W hW
  have HN := Lib.hid hnw
  have HT := Lib.hid hT
  clear hc hb hnw hsp hT
  go_enter Try.func8, Try.ntmps8
  go_upto_region 4 with (first
    | (go_at_call 21; refine HSp.out.mono ?_; rintro e w1 ⟨rfl, f1⟩; have F1 := Lib.hid f1; clear f1)
    | (go_at_call 26; refine (HN.out w1 (by have := F1.out.size; have := HT.out; omega)).mono ?_; rintro e w2 ⟨rfl, h1, h2, h3⟩; have FA := Lib.hid h1; have F2 := Lib.hid (F1.out.trans h2 (fun _ h => h.elim)); clear h1 h2 h3))
  obtain ⟨R, hR⟩ : ∃ R, cells.toNat = R := ⟨_, rfl⟩
  rw [hR] at FA
  have hm : max cells 0 = (R : Int) := by omega
  have hR1 : (R : Int) ≤ 9223372036854775807 := by omega
  generalize w1.heap.size = p at *
  go_cut [6] (fun v6 wx => v6 = .int .i64 (R : Int) ∧ wx = w2)
  case first =>
    clear FA F1 HN HSp
    by_cases hneg : cells < 0
    · obtain rfl : R = 0 := by omega
      go_wp2
      go_meet
      case rel => exact ⟨rfl, rfl⟩
    · obtain rfl : cells = (R : Int) := by omega
      go_wp2
      go_meet
      case rel => exact ⟨rfl, rfl⟩
  case rest =>
    obtain ⟨rfl, hwc⟩ := hcut
    rw [hwc]
    clear hwc
    have hst := PlS.start FA.out F2.out (by have := F2.out.size; have := HT.out; omega)
    have HS := Lib.hid hst
    have m1 := made55 w2
    have m2 := made56 (w2.alloc (.map #[] 0))
    rw [show (w2.alloc (.map #[] 0)).heap.size = w2.heap.size + 1 by simp] at m2
    obtain ⟨mb0, hmb⟩ : ∃ x, w2.heap.size = x := ⟨_, rfl⟩
    obtain ⟨mv, hmv⟩ : ∃ x, mb0 + 1 = x := ⟨_, rfl⟩
    rw [hmb] at HS m1 m2
    rw [hmv] at HS m2
    generalize (w2.alloc (.map #[] 0)).alloc (.map #[] 0) = W0 at *
    clear HN F1 HSp hst hR hmb hmv
    clear F2 FA
    go_upto_region 6 with fail
    clear m1 m2 hm hcl0 hcl1
    go_wp2
    go_loopw [7, 9, 10, 11, 12, 13, 14, 15, 16, 17, 18] (fun v7 v9 v10 v11 _ _ _ _ _ _ _ wr => ∃ (i mb N1 N2 : Nat) (u f : Value) (us : List Cl) (fs : List Nat) (tk : Int → Bool) (vl : Int → Int), i ≤ len ∧ i ≤ 80 ∧ v7 = .map (some mb) ∧ v10 = .int .i64 (us.length : Int) ∧ v11 = .int .i64 (i : Int) ∧ Hid (PlS T w wr p R mb mv N1 N2 u f v9 us fs fs tk vl) ∧ Hid (Inv us fs tk vl) ∧ Hid (us.length ≤ i ∧ N1 ≤ i ∧ N2 ≤ i)) (fun _ _ _ v11 _ _ _ _ _ _ _ _ => 80 - (intOf v11).toNat)
    case atStart => exact ⟨0, mb0, 0, 0, _, _, [], [], _, _, Nat.zero_le _, Nat.zero_le _, rfl, rfl, rfl, HS, Inv.none, Nat.zero_le _, Nat.zero_le _, Nat.zero_le _⟩
    case round =>
      rename_i v9 _ _ _ _ _ _ _ _
      obtain ⟨i, mb, N1, N2, u, f, us, fs, tk, vl, hi, hi8, rfl, rfl, rfl, KS, KI, KN⟩ := hrel
      clear HS
      by_cases hlt : i < len ∧ i < 80
      · obtain ⟨hlt, h80⟩ := hlt
        have hlI : (i : Int) < (len : Int) := by omega
        have h8I : (i : Int) < 80 := by omega
        have hx0 : (0 : Int) ≤ (i : Int) := by omega
        obtain ⟨what, at', val, a0, a1, a2, ⟨r00, r01⟩, hr1, hr2⟩ := Hc.out i hlt
        have hbT := Hb.out
        have c0 := KS.out.fr.cell_ a0 (by show ¬ (T ≤ b); omega)
        have c1 := KS.out.fr.cell_ a1 (by show ¬ (T ≤ b); omega)
        have c2 := KS.out.fr.cell_ a2 (by show ¬ (T ≤ b); omega)
        have hKS := KS.out.fresh ((Fr.refl (fun _ => False) wr).alloc (.cells #[.int .u8 what, .int .i64 at', .int .i64 val] 59))
        have hX := heap_alloc_new wr (.cells #[.int .u8 what, .int .i64 at', .int .i64 val] 59)
        go_upto_region 12 with fail
        generalize wr.alloc (.cells #[.int .u8 what, .int .i64 at', .int .i64 val] 59) = W1 at *
        generalize wr.heap.size = X at *
        have d0 : W1.cell? ⟨X, 0, none⟩ = some (.int .u8 what) := cell_of hX 0
        have d1 : W1.cell? ⟨X, 1, none⟩ = some (.int .i64 at') := cell_of hX 1
        have d2 : W1.cell? ⟨X, 2, none⟩ = some (.int .i64 val) := cell_of hX 2
        have K1 := Lib.hid hKS
        have HX := Lib.hid hX
        have Hr1 := Lib.hid hr1
        have Hr2 := Lib.hid hr2
        clear hKS hX c0 c1 c2 a0 a1 a2 KS hr1 hr2 hx0 hbT
        go_upto_block 2 with fail
        go_cut [7, 9, 10] (fun v7 v9 v10 wx => ∃ (mb N1 N2 : Nat) (u f : Value) (us : List Cl) (fs : List Nat) (tk : Int → Bool) (vl : Int → Int), v7 = .map (some mb) ∧ v10 = .int .i64 (us.length : Int) ∧ Hid (PlS T w wx p R mb mv N1 N2 u f v9 us fs fs tk vl) ∧ Hid (Inv us fs tk vl) ∧ Hid (us.length ≤ i + 1 ∧ N1 ≤ i + 1 ∧ N2 ≤ i + 1))
        case first =>
          have hwf : (Lit.int .i64 at').wf = true := wf64 Hr1.out
          have hwv : (Lit.int .i64 val).wf = true := wf64 Hr2.out
          have hfle := KI.out.fle
          have hN := KN.out
          have Hwf := Lib.hid hwf
          have Hwv := Lib.hid hwv
          have HN := Lib.hid (show us.length ≤ i ∧ fs.length ≤ i ∧ N1 ≤ i ∧ N2 ≤ i by omega)
          clear hfle hN
          by_cases k3 : what % 6 = 3
          · have k3' : (what % 6 == 3) = true := by simp [k3]
            have KD := Lib.hid (K1.out.fresh (Fr.refl (fun _ => False) W1).drew)
            have lB := KD.out.lookB hwf
            have hZ := lt_of_block HX.out
            rcases hb : tk at' with _ | _
            · as_aux_lemma =>
                have hfr := pl_free_no KD.out KI.out hb
                rw [hb] at lB
                have HFr := Lib.hid hfr
                clear hfr hwf hwv hb k3 hZ
                go_upto_region 26 with fail
                go_region_with (go_at_call 27; refine HFr.out.mono ?_; rintro e w4 ⟨rfl, hw⟩; rw [hw]; clear hw)
                all_goals go_wp2
                all_goals go_meet
                all_goals exact ⟨mb, N1, N2, u, f, us, fs, tk, vl, rfl, rfl, KD, KI, by have := KN.out; exact ⟨by omega, by omega, by omega⟩⟩
            · as_aux_lemma =>
                have hfr := pl_free_yes KD.out KI.out (by have := HN.out; omega) hb
                rw [hb] at lB
                have hpos : ∃ x : Nat, at' = (x : Int) ∧ at'.toNat = x := by
                  rcases KI.out.place at' with ⟨h1, _⟩ | ⟨_, j, bq, hj, _⟩
                  · rw [hb] at h1; cases h1
                  · exact ⟨j + 1, by omega, by omega⟩
                obtain ⟨x, rfl, hx2⟩ := hpos
                rw [hx2] at hfr
                have HFr := Lib.hid hfr
                have Hb := Lib.hid hb
                clear hfr hwf hwv hb k3 hx2 hZ
                go_upto_region 26 with fail
                go_cut [102] from 94 to 102 (fun v102 wx => v102 = .bool false ∧ ∃ f2 us2, Hid (PlS T w wx p R mb mv N1 N2 u f2 u9 us2 (fs ++ [x]) fs tk vl) ∧ Hid (Inv us2 (fs ++ [x]) (fun i => if i = (x : Int) then false else tk i) vl) ∧ Hid (us2.length = us.length) ∧ Hid (wx.heap[X]? = some (.cells #[.int .u8 what, .int .i64 (x : Int), .int .i64 val] 59 (0, 0))))
                case first =>
                  go_region_with (go_at_call 27; refine HFr.out.mono ?_; rintro e w4 ⟨rfl, ⟨f2, us2, h1, h2, h3⟩, h4⟩; have K4 := Lib.hid h1; have I4 := Lib.hid h2; have L4 := Lib.hid h3; have X4 := Lib.hid (h4 _ _ (show W1.drew.heap[X]? = some _ from HX.out)); have lB4 := K4.out.lookB Hwf.out; rw [Hb.out] at lB4; have e1 : w4.cell? ⟨X, 1, none⟩ = some (.int .i64 (x : Int)) := cell_of X4.out 1; clear h1 h2 h3 h4)
                  all_goals go_wp2
                  all_goals go_meet
                  all_goals exact ⟨rfl, f2, us2, K4, I4, L4, X4⟩
                case rest =>
                  obtain ⟨rfl, f2, us2, K4, I4, L4, X4⟩ := hcut
                  have lB4 := K4.out.lookB Hwf.out
                  rw [Hb.out] at lB4
                  have e1 : wc.cell? ⟨X, 1, none⟩ = some (.int .i64 (x : Int)) := cell_of X4.out 1
                  obtain ⟨w5, hup, K5, X5⟩ := K4.out.putB (by have := HN.out; omega) Hwf.out false
                  have e5 : w5.cell? ⟨X, 1, none⟩ = some (.int .i64 (x : Int)) := cell_of (X5 _ _ X4.out) 1
                  have HK5 := Lib.hid K5
                  have hX5 : X < w5.heap.size := lt_of_block (X5 _ _ X4.out)
                  clear K5 X5 lB d0 d1 d2
                  go_upto_region 30 with fail
                  clear lB4 e1 hup
                  obtain ⟨M, hM⟩ : ∃ M, w5.heap.size = M := ⟨_, rfl⟩
                  obtain ⟨⟨v1, W1', v2, W2, q1, q2, p1, p2, q3⟩, ⟨v3, W3, v4, W4, q4, q5, p3, p4, q6⟩, ⟨v5, W5, v6, W6, q7, q8, p5, p6, q9⟩⟩ := cat_eqs HK5.out (by have := HN.out; omega) x (N := M) hM
                  have hXM : X < M := by rw [← hM]; exact hX5
                  have k1 := p1.cell_ e5 (fun x => x)
                  have k2 := p2.cell_ e5 (fun x => x)
                  have k3 := p3.cell_ e5 (fun x => x)
                  have k4 := p4.cell_ e5 (fun x => x)
                  have k5 := p5.cell_ e5 (fun x => x)
                  have k6 := p6.cell_ e5 (fun x => x)
                  have hl1 := p1.size
                  rw [hM] at hl1
                  have hXW : X < W1'.heap.size := by omega
                  have Q3 := Lib.hid q3
                  have Q6 := Lib.hid q6
                  have Q9 := Lib.hid q9
                  clear q3 q6 q9 p1 p2 p3 p4 p5 p6 hl1
                  go_region_held3 (fun w' => w'.cell? ⟨X, 1, none⟩ = some (.int .i64 (x : Int))) (first | exact k1 | exact k2 | exact k3 | exact k4 | exact k5 | exact k6 | go_keep) (first
                    | ((with_reducible show (if _ = true then Oper.wp Try.prog _ _ (w5.alloc (.cells #[] 3)).drew _ _ else _)); refine step_append_eq (by rfl) _ _ _ (by rfl) _ _ (by rfl) (by rfl) _ _ q1 ?_)
                    | ((with_reducible show (if _ = true then Oper.wp Try.prog _ _ (W1'.alloc (.cells #[.int .i64 (x : Int)] 3)) _ _ else _)); refine step_append_eq (by rfl) _ _ _ (by rfl) _ _ (by rfl) (by rfl) _ _ q2 ?_)
                    | ((with_reducible show (if _ = true then Oper.wp Try.prog _ _ ((w5.alloc (.cells #[] 3)).alloc (.cells #[.int .i64 (x : Int)] 3)).drew _ _ else _)); refine step_append_eq (by rfl) _ _ _ (by rfl) _ _ (by rfl) (by rfl) _ _ q4 ?_)
                    | ((with_reducible show (if _ = true then Oper.wp Try.prog _ _ W3 _ _ else _)); refine step_append_eq (by rfl) _ _ _ (by rfl) _ _ (by rfl) (by rfl) _ _ q5 ?_)
                    | ((with_reducible show (if _ = true then Oper.wp Try.prog _ _ ((w5.alloc (.cells #[.int .i64 (x : Int)] 3)).alloc (.cells #[] 3)).drew _ _ else _)); refine step_append_eq (by rfl) _ _ _ (by rfl) _ _ (by rfl) (by rfl) _ _ q7 ?_)
                    | ((with_reducible show (if _ = true then Oper.wp Try.prog _ _ W5 _ _ else _)); refine step_append_eq (by rfl) _ _ _ (by rfl) _ _ (by rfl) (by rfl) _ _ q8 ?_))
                  all_goals go_wp2
                  all_goals go_meet
                  all_goals first
                    | exact ⟨mb, N1 + 1, N2, u, f2, us2, fs ++ [x], _, vl, rfl, by rw [L4.out], Q3, I4, by have := KN.out; have := L4.out; exact ⟨by omega, by omega, by omega⟩⟩
                    | exact ⟨mb, N1 + 1, N2, u, f2, us2, fs ++ [x], _, vl, rfl, by rw [L4.out], Q6, I4, by have := KN.out; have := L4.out; exact ⟨by omega, by omega, by omega⟩⟩
                    | exact ⟨mb, N1 + 1, N2, u, f2, us2, fs ++ [x], _, vl, rfl, by rw [L4.out], Q9, I4, by have := KN.out; have := L4.out; exact ⟨by omega, by omega, by omega⟩⟩
          · have k3' : (what % 6 == 3) = false := by simp [k3]
            by_cases k4 : what % 6 = 4
            · as_aux_lemma =>
                have k4' : (what % 6 == 4) = true := by simp [k4]
                rcases hb : tk at' with _ | _
                · have hat := pl_at_no K1.out KI.out hb
                  have HAt := Lib.hid hat
                  clear hat hwf hwv hb k3 k4
                  go_wp2_with (go_at_call 28; refine HAt.out.mono ?_; rintro e w4 ⟨rfl, hw⟩; rw [hw]; clear hw)
                  go_meet
                  exact ⟨mb, N1, N2, u, f, us, fs, tk, vl, rfl, rfl, K1, KI, by have := KN.out; exact ⟨by omega, by omega, by omega⟩⟩
                · obtain ⟨j, bb, hj, hbj, hbb, hat⟩ := pl_at_yes K1.out KI.out hb
                  have cb : W1.cell? ⟨bb, 0, none⟩ = some (.int .i64 (vl at')) := cell_of hbb 0
                  have fb := free_of hbb 0
                  have hXb : X ≠ bb := ne_of_ty HX.out hbb (by decide)
                  have hsv := K1.out.setV hbj (.int .i64 val)
                  have hX2 := block_setCell_other HX.out hXb (.int .i64 val) (off := 0)
                  obtain ⟨V, hV⟩ : ∃ V, W1.setCell ⟨bb, 0, none⟩ (.int .i64 val) = V := ⟨_, rfl⟩
                  rw [hV] at hsv hX2
                  have e1 : V.cell? ⟨X, 1, none⟩ = some (.int .i64 at') := cell_of hX2 1
                  have e2 : V.cell? ⟨X, 2, none⟩ = some (.int .i64 val) := cell_of hX2 2
                  obtain ⟨w5, hup, K5, X5⟩ := hsv.putV (by have := HN.out; omega) hwf hwv
                  have hiv := KI.out.setVal hbj val
                  have HAt := Lib.hid hat
                  have HV := Lib.hid hV
                  have HK5 := Lib.hid K5
                  have HI := Lib.hid hiv
                  have Hj := Lib.hid hj
                  clear hat hwf hwv hb k3 k4 hbj hbb hXb hsv hX2 hV K5 X5 hiv hj
                  go_upto_region 34 with (go_at_call 28; refine HAt.out.mono ?_; rintro e w4 ⟨rfl, hw⟩; rw [hw]; clear hw)
                  go_upto_region 35 with fail
                  rw [HV.out]
                  clear cb fb d0 d1 d2
                  go_wp2
                  go_meet
                  exact ⟨mb, N1, N2 + 1, u, f, _, fs, tk, _, rfl, by simp, HK5, by rw [← Hj.out] at HI; exact HI, by have := KN.out; exact ⟨by simp; omega, by omega, by omega⟩⟩
            · have k4' : (what % 6 == 4) = false := by simp [k4]
              by_cases k5 : what % 6 = 5
              · as_aux_lemma =>
                  have k5' : (what % 6 == 5) = true := by simp [k5]
                  by_cases hv4 : val.tmod 4 = 0
                  · have hv4' : (val.tmod 4 == 0) = true := by simp [hv4]
                    have hcl := pl_clear K1.out
                    have HCl := Lib.hid hcl
                    clear hcl hwf hwv k3 k4 k5
                    go_upto_region 39 with (go_at_call 29; refine HCl.out.mono ?_; rintro e w4 ⟨rfl, h1, _⟩; have K4 := Lib.hid h1; clear h1)
                    have m1 := made55 w4
                    have K5 := Lib.hid (K4.out.renew)
                    go_wp2
                    go_meet
                    exact ⟨_, 0, N2, _, _, [], [], _, vl, rfl, rfl, K5, Inv.none, by have := KN.out; exact ⟨Nat.zero_le _, Nat.zero_le _, by omega⟩⟩
                  · have hv4' : (val.tmod 4 == 0) = false := by simp [hv4]
                    clear hwf hwv k3 k4 k5
                    go_wp2
                    go_meet
                    exact ⟨mb, N1, N2, u, f, us, fs, tk, vl, rfl, rfl, K1, KI, by have := KN.out; exact ⟨by omega, by omega, by omega⟩⟩
              · as_aux_lemma =>
                  have k5' : (what % 6 == 5) = false := by simp [k5]
                  clear k3 k4 k5
                  rcases List.eq_nil_or_concat fs with hfs | ⟨gs, k0, hfs⟩
                  · subst hfs
                    obtain ⟨a9, cap9, h9⟩ := own_any K1.out.fl
                    subst h9
                    by_cases hrm : us.length < R
                    · have htk := pl_take_new K1.out KI.out hrm (by have := HN.out; omega) val
                      have hsl := HN.out.1
                      obtain ⟨E, hE⟩ : ∃ E, us.length = E := ⟨_, rfl⟩
                      rw [hE] at htk hrm hsl ⊢
                      have hrI : (E : Int) < (R : Int) := by omega
                      have hp0 : (0 : Int) < (E : Int) + 1 := by omega
                      have e1 : IntKind.i64.wrap ((E : Int) + 1) = (E : Int) + 1 := IntWalk.i64_in _ (by omega)
                      have hwk : (Lit.int .i64 ((E : Int) + 1)).wf = true := wf64 (by omega)
                      have HTk := Lib.hid htk
                      have HE := Lib.hid hE
                      have Hwk := Lib.hid hwk
                      clear htk hE hwf hwv hwk
                      go_upto_region 24 with (go_at_call 30; refine HTk.out.mono ?_; rintro e w4 ⟨rfl, ⟨u2, us2, h1, h2, h3⟩, h4⟩; have K4 := Lib.hid h1; have I4 := Lib.hid h2; have L4 := Lib.hid h3; have X4 := Lib.hid (h4 _ _ HX.out); clear h1 h2 h3 h4)
                      obtain ⟨Va, Vb, Vc, Vd, ea, eb, ec, ed, ka, Pb, Pd⟩ := two_puts (K4.out.fresh (Fr.refl (fun _ => False) w4).drew) (by have := HN.out; omega) (by have := HN.out; omega) Hwk.out Hwv.out
                      have z2 : w4.cell? ⟨X, 2, none⟩ = some (.int .i64 val) := cell_of X4.out 2
                      have y2 : Va.cell? ⟨X, 2, none⟩ = some (.int .i64 val) := cell_of (ka _ _ (show w4.drew.heap[X]? = some _ from X4.out)) 2
                      have HPb := Lib.hid Pb
                      have HPd := Lib.hid Pd
                      clear ka Pb Pd d0 d1 d2
                      go_big_region
                      all_goals go_wp2
                      all_goals go_meet
                      all_goals first
                        | exact ⟨mb, N1 + 1, N2 + 1, u2, f, us2, [], _, _, rfl, by rw [L4.out]; rfl, HPb, I4, by have := KN.out; have := L4.out; exact ⟨by omega, by omega, by omega⟩⟩
                        | exact ⟨mb, N1 + 1, N2 + 1, u2, f, us2, [], _, _, rfl, by rw [L4.out]; rfl, HPd, I4, by have := KN.out; have := L4.out; exact ⟨by omega, by omega, by omega⟩⟩
                    · have hle := K1.out.ar.le
                      have htk := pl_take_full K1.out (by omega) val
                      have hrI : ¬ ((us.length : Int) < (R : Int)) := by omega
                      have HTk := Lib.hid htk
                      clear htk hwf hwv hle hrm
                      go_wp2_with (go_at_call 30; refine HTk.out.mono ?_; rintro e w4 ⟨rfl, h1⟩; have K4 := Lib.hid (K1.out.fresh h1); clear h1)
                      go_meet
                      exact ⟨mb, N1, N2, u, f, us, [], tk, vl, rfl, rfl, K4, KI, by have := KN.out; exact ⟨by omega, by omega, by omega⟩⟩
                  · rw [List.concat_eq_append] at hfs
                    subst hfs
                    obtain ⟨g, cap9, h9⟩ := own_slice K1.out.fl (by simp)
                    subst h9
                    simp only [List.length_append, List.length_cons, List.length_nil, Nat.zero_add] at K1 ⊢
                    obtain ⟨hpop, hcell, hcapn⟩ := PlS.pop K1.out
                    have htk := pl_take_again hpop KI.out val
                    have hk0 : 1 ≤ k0 := by
                      obtain ⟨j, _, _, h, _⟩ := KI.out.fre k0 (by simp)
                      omega
                    have hk9 : k0 ≤ us.length := by
                      obtain ⟨j, _, _, h, h2⟩ := KI.out.fre k0 (by simp)
                      have := (List.getElem?_eq_some_iff.1 h2).1
                      omega
                    have hN := HN.out
                    simp only [List.length_append, List.length_cons, List.length_nil, Nat.zero_add] at hN
                    obtain ⟨n, hn⟩ : ∃ n, gs.length = n := ⟨_, rfl⟩
                    rw [hn] at hcell hcapn hN K1 hpop htk ⊢
                    have hlen1 : (0 : Int) < (n : Int) + 1 := by omega
                    have hsub : (n : Int) + 1 - 1 = n := by omega
                    have m0 : IntKind.i64.wrap ((n : Int) + 1 - 1) = n := by rw [hsub]; exact IntWalk.i64_in _ (by omega)
                    have g0 : (0 : Int) ≤ (n : Int) := by omega
                    have g01 : (n : Int) < (n : Int) + 1 := by omega
                    have hkp : (0 : Int) < (k0 : Int) := by omega
                    have hkn : 0 < k0 := hk0
                    have hkd : decide (0 < k0) = true := decide_eq_true hkn
                    have hwk : (Lit.int .i64 (k0 : Int)).wf = true := wf64 (by omega)
                    have HTk := Lib.hid htk
                    have Hn := Lib.hid hn
                    have Hwk := Lib.hid hwk
                    clear htk hn hwf hwv hwk hpop
                    go_upto_region 24 with (go_at_call 30; refine HTk.out.mono ?_; rintro e w4 ⟨rfl, ⟨f2, us2, h1, h2, h3⟩, h4⟩; have K4 := Lib.hid h1; have I4 := Lib.hid h2; have L4 := Lib.hid h3; have X4 := Lib.hid (h4 _ _ HX.out); clear h1 h2 h3 h4)
                    obtain ⟨Va, Vb, Vc, Vd, ea, eb, ec, ed, ka, Pb, Pd⟩ := two_puts (K4.out.fresh (Fr.refl (fun _ => False) w4).drew) (by have := HN.out; omega) (by have := HN.out; omega) Hwk.out Hwv.out
                    have z2 : w4.cell? ⟨X, 2, none⟩ = some (.int .i64 val) := cell_of X4.out 2
                    have y2 : Va.cell? ⟨X, 2, none⟩ = some (.int .i64 val) := cell_of (ka _ _ (show w4.drew.heap[X]? = some _ from X4.out)) 2
                    have HPb := Lib.hid Pb
                    have HPd := Lib.hid Pd
                    clear ka Pb Pd d0 d1 d2
                    go_big_region
                    all_goals go_wp2
                    all_goals go_meet
                    all_goals first
                      | exact ⟨mb, N1 + 1, N2 + 1, u, f2, us2, gs, _, _, rfl, by rw [L4.out], HPb, I4, by have := KN.out; have := L4.out; exact ⟨by omega, by omega, by omega⟩⟩
                      | exact ⟨mb, N1 + 1, N2 + 1, u, f2, us2, gs, _, _, rfl, by rw [L4.out], HPd, I4, by have := KN.out; have := L4.out; exact ⟨by omega, by omega, by omega⟩⟩
        case rest =>
          as_aux_lemma =>
            obtain ⟨mb', N1', N2', u', f', us', fs', tk', vl', rfl, rfl, KC, KCI, KCN⟩ := hcut
            clear K1 KI KN HX d0 d1 d2
            have hLf := pl_left KC.out KCI.out
            have hfl := KCI.out.fle
            have hle := KC.out.ar.le
            have hN := KCN.out.1
            obtain ⟨a9, cap9, h9⟩ := own_any KC.out.fl
            subst h9
            obtain ⟨E, hE⟩ : ∃ E, us'.length = E := ⟨_, rfl⟩
            obtain ⟨G, hG⟩ : ∃ G, fs'.length = G := ⟨_, rfl⟩
            rw [hE, hG] at hLf
            rw [hE] at hN hle hfl
            rw [hG] at hfl
            rw [hE, hG]
            have m1 : IntKind.i64.wrap ((R : Int) - (E : Int)) = (R : Int) - E := IntWalk.i64_in _ (by omega)
            have m2 : IntKind.i64.wrap ((R : Int) - (E : Int) + (G : Int)) = (R : Int) - E + G := IntWalk.i64_in _ (by omega)
            have HLf := Lib.hid hLf
            have HE := Lib.hid hE
            have HG := Lib.hid hG
            clear hLf hE hG
            go_upto_region 42 with (go_at_call 31; refine HLf.out.mono ?_; rintro e w3 ⟨rfl, hf⟩; have K3 := Lib.hid (KC.out.fresh hf); clear hf)
            clear HLf KC
            go_wp2
            go_loopw [17, 18] (fun v17 _ wr2 => ∃ k : Nat, k ≤ E + 3 ∧ v17 = .int .i64 ((k : Int) - 1) ∧ Hid (Fr (fun _ => False) w3 wr2)) (fun v17 _ _ => E + 3 - ((intOf v17) + 1).toNat)
            case atStart => exact ⟨0, by omega, rfl, Fr.refl _ _⟩
            case round =>
              obtain ⟨k, hk, rfl, JF⟩ := hrel
              have K4 := Lib.hid (K3.out.fresh JF.out)
              obtain ⟨q, hq⟩ : ∃ q : Int, (k : Int) - 1 = q := ⟨_, rfl⟩
              rw [hq]
              by_cases hkE : k ≤ E + 2
              · have hqE : q ≤ (E : Int) + 1 := by omega
                have hwf : (Lit.int .i64 q).wf = true := wf64 (by omega)
                have hqb : -1 ≤ q ∧ q ≤ 100 := by omega
                have q1 : IntKind.i64.wrap (q + 1) = q + 1 := IntWalk.i64_in _ (by clear m1 m2; omega)
                have HK1 : Hid (Value.int .i64 (q + 1) = Value.int .i64 (((k + 1 : Nat) : Int) - 1)) := congrArg (Value.int .i64) (by omega)
                have Hq := Lib.hid hq
                have Hqb := Lib.hid hqb
                clear hq K3 hqb m1 m2
                have lB := (K4.out.fresh (Fr.refl (fun _ => False) wr).drew).lookB hwf
                have lV := (K4.out.fresh (Fr.refl (fun _ => False) wr).drew).lookV hwf
                rcases hb : tk' q with _ | _
                · have hat := pl_at_no K4.out KCI.out hb
                  rw [hb] at lB
                  have HAt := Lib.hid hat
                  clear hat hb hwf
                  go_upto_region 46 with (go_at_call 28; refine HAt.out.mono ?_; rintro e w4 ⟨rfl, hw⟩; rw [hw]; clear hw)
                  clear HAt
                  go_big_region
                  all_goals go_wp2
                  all_goals go_roundw
                  all_goals first
                    | exact ⟨k + 1, by omega, HK1.out, JF.out.drew⟩
                    | (simp [intOf]; have := Hq.out; have := Hqb.out; omega)
                · obtain ⟨j, bb, -, -, hbb, hat⟩ := pl_at_yes K4.out KCI.out hb
                  rw [hb] at lB
                  have cb : wr.cell? ⟨bb, 0, none⟩ = some (.int .i64 (vl' q)) := cell_of hbb 0
                  generalize vl' q = vq at *
                  have HAt := Lib.hid hat
                  clear hat hb hwf hbb
                  go_upto_region 46 with (go_at_call 28; refine HAt.out.mono ?_; rintro e w4 ⟨rfl, hw⟩; rw [hw]; clear hw)
                  clear HAt
                  go_big_region
                  all_goals go_wp2
                  all_goals go_roundw
                  all_goals first
                    | exact ⟨k + 1, by omega, HK1.out, JF.out.drew⟩
                    | (simp [intOf]; have := Hq.out; have := Hqb.out; omega)
              · obtain rfl : k = E + 3 := by omega
                have hqE : ¬ (q ≤ (E : Int) + 1) := by omega
                clear hkE hq hk
                go_wp2
                go_roundw
                case rel => exact ⟨i + 1, mb', N1', N2', u', f', us', fs', tk', vl', by omega, by omega, rfl, by rw [HE.out], by go_num, by rw [HG.out] at K4; exact K4, KCI, KCN⟩
                case measure => simp [intOf]; omega
      · as_aux_lemma =>
          clear Hc
          have hfin : PlS T w wr p R mb mv N1 N2 u f u9 us fs fs tk vl := KS.out
          rcases Nat.lt_or_ge i len with h | h
          · have hlI : (i : Int) < (len : Int) := by omega
            have h8I : ¬ ((i : Int) < 80) := by omega
            go_wp2_with (first
              | (go_at_call 29; refine (nil_clear _).mono ?_; rintro e w5 ⟨rfl, hw⟩; rw [hw]; clear hw)
              | (go_at_call 30; refine (nil_take _ _).mono ?_; rintro e w5 ⟨rfl, hw⟩; rw [hw]; clear hw)
              | (go_at_call 28; refine (nil_at _ _).mono ?_; rintro e w5 ⟨rfl, hw⟩; rw [hw]; clear hw)
              | (go_at_call 27; refine (nil_free _ _).mono ?_; rintro e w5 ⟨rfl, hw⟩; rw [hw]; clear hw)
              | (go_at_call 31; refine (nil_left _).mono ?_; rintro e w5 ⟨rfl, hw⟩; rw [hw]; clear hw))
            go_ret
            exact ⟨rfl, hfin.fr⟩
          · have hlI : ¬ ((i : Int) < (len : Int)) := by omega
            go_wp2_with (first
              | (go_at_call 29; refine (nil_clear _).mono ?_; rintro e w5 ⟨rfl, hw⟩; rw [hw]; clear hw)
              | (go_at_call 30; refine (nil_take _ _).mono ?_; rintro e w5 ⟨rfl, hw⟩; rw [hw]; clear hw)
              | (go_at_call 28; refine (nil_at _ _).mono ?_; rintro e w5 ⟨rfl, hw⟩; rw [hw]; clear hw)
              | (go_at_call 27; refine (nil_free _ _).mono ?_; rintro e w5 ⟨rfl, hw⟩; rw [hw]; clear hw)
              | (go_at_call 31; refine (nil_left _).mono ?_; rintro e w5 ⟨rfl, hw⟩; rw [hw]; clear hw))
            go_ret
            exact ⟨rfl, hfin.fr⟩
end Go.Proofs.Ytfmoagdhajfngaa
