/- WindowPlays: the walk of the law. -/
import Derived.Test.YtfmoagdhajfngaaWinX
import Derived.Deep.CutBlock
import Derived.Test.YtfmoagdhajfngaaOps
namespace Go.Proofs.Ytfmoagdhajfngaa
open Go.RowKit Go.My

/-- An act's four cells. -/
structure ActAt (w : World) (b off i : Nat) (what x : Int) (dist n : Int) : Prop where
  c0 : w.cell? ⟨b, off + i * 4, none⟩ = some (.int .u8 what)
  c1 : w.cell? ⟨b, off + i * 4 + 1, none⟩ = some (.int .u8 x)
  c2 : w.cell? ⟨b, off + i * 4 + 2, none⟩ = some (.int .i64 dist)
  c3 : w.cell? ⟨b, off + i * 4 + 3, none⟩ = some (.int .i64 n)
  r0 : 0 ≤ what ∧ what < 256
  r1 : 0 ≤ x ∧ x < 256
  r2 : -9223372036854775808 ≤ dist ∧ dist ≤ 9223372036854775807
  r3 : -9223372036854775808 ≤ n ∧ n ≤ 9223372036854775807

theorem conv_one (w : World) (x : Int) : (convert 29 9 (.slice (some ⟨w.heap.size, 0, none⟩) 1 1)).run Try.prog (w.alloc (.cells #[.int .u8 x] 5)) = .ok (.string (strOfNums [x])) (w.alloc (.cells #[.int .u8 x] 5)) :=
  run_convert_bytes_arg (P := Try.prog) (w.alloc (.cells #[.int .u8 x] 5)) 29 5 Try.underlying29 Try.underlying5 w.heap.size 0 1 1 [x] rfl (by
    intro i hi
    match i, hi with
    | 0, _ => simp) 9 Try.underlying9

set_option maxHeartbeats 40000000 in
set_option maxRecDepth 100000 in
theorem windowPlays_walk (most : Int) (b off len cap : Nat) (hm : -9223372036854775808 ≤ most ∧ most ≤ 9223372036854775807) (hlen : len ≤ 9223372036854775807) (w : World) (hb : b < w.heap.size)
    (hc : ∀ i, i < len → ∃ what x dist n, ActAt w b off i what x dist n) :
    Calls Try.prog 6 #[.int .i64 most, .slice (some ⟨b, off, none⟩) len cap] w fun e w' => e = .returned (.bool true) ∧ Below w.heap.size w w' := by
  obtain ⟨hm0, hm1⟩ := hm
  obtain ⟨room, hroom⟩ : ∃ room, (if most < 0 then 0 else most) = room := ⟨_, rfl⟩
  have hr0 : 0 ≤ room := by rw [← hroom]; split <;> omega
  have hr1 : room ≤ 9223372036854775807 := by rw [← hroom]; split <;> omega
  have hmax : max most 0 = room := by rw [← hroom]; split <;> omega
  have Hroom := Lib.hid hroom
  have Hc := Lib.hid hc
  have Hb := Lib.hid hb
  clear hroom hc hb
  go_enter Try.func6, Try.ntmps6
  go_wp2_with (go_at_call 14; refine (speaks02 _).mono ?_; rintro e w1 ⟨rfl, hb1⟩; have Hb1 := Lib.hid hb1; clear hb1)
  refine (own_new w _ Hb1.out most).mono ?_
  rintro e w2 ⟨rfl, h2⟩
  rw [Hroom.out] at h2
  generalize w1.heap.size = p at *
  have H2 := Lib.hid h2
  clear h2
  go_upto_region 4 with fail
  go_cut [6] (fun v6 wx => v6 = .int .i64 room ∧ wx = w2)
  case first =>
    by_cases hneg : most < 0
    · obtain rfl : room = 0 := by have := Hroom.out; rw [if_pos hneg] at this; exact this.symm
      go_wp2
      go_meet
      case rel => exact ⟨rfl, rfl⟩
    · obtain rfl : room = most := by have := Hroom.out; rw [if_neg hneg] at this; exact this.symm
      go_wp2
      go_meet
      case rel => exact ⟨rfl, rfl⟩
  case rest =>
    obtain ⟨rfl, rfl⟩ := hcut
    clear hmax Hroom
    go_wp2_with fail
    go_loopw [7, 8] (fun v7 v8 wr => ∃ (i : Nat) (S : ByteArray), i ≤ len ∧ i ≤ 60 ∧ v7 = .string S ∧ v8 = .int .i64 (i : Int) ∧ S.size ≤ 300 * i ∧ Hid (OwnWin w wr p room S.data.toList)) (fun _ v8 _ => len - (intOf v8).toNat)
    case atStart => exact ⟨0, ⟨#[]⟩, Nat.zero_le _, Nat.zero_le _, rfl, rfl, Nat.zero_le _, H2⟩
    case round =>
      obtain ⟨i, S, hi, hi60, rfl, rfl, hS, hW⟩ := hrel
      by_cases hlt : i < len
      · by_cases h60 : i < 60
        · obtain ⟨what, x, dist, n, hA⟩ := Hc.out i hlt
          obtain ⟨a0, a1, a2, a3, ⟨r00, r01⟩, ⟨r10, r11⟩, ⟨r20, r21⟩, ⟨r30, r31⟩⟩ := hA
          have hbel := hW.out.below
          have c0 := (hbel.cell (p := ⟨b, off + i * 4, none⟩) Hb.out).trans a0
          have c1 := (hbel.cell (p := ⟨b, off + i * 4 + 1, none⟩) Hb.out).trans a1
          have c2 := (hbel.cell (p := ⟨b, off + i * 4 + 2, none⟩) Hb.out).trans a2
          have c3 := (hbel.cell (p := ⟨b, off + i * 4 + 3, none⟩) Hb.out).trans a3
          have hx0 : (0 : Int) ≤ (i : Int) := by omega
          have hx1 : (i : Int) < (len : Int) := by omega
          clear a0 a1 a2 a3 hbel
          have hXW := hW.out.alloc (.cells #[.int .u8 what, .int .u8 x, .int .i64 dist, .int .i64 n] 39)
          have hSl : S.data.toList.length = S.size := by simp
          go_upto_block 2 with fail
          generalize wr.alloc (.cells #[.int .u8 what, .int .u8 x, .int .i64 dist, .int .i64 n] 39) = W1 at *
          generalize wr.heap.size = X at *
          have d0 : W1.cell? ⟨X, 0, none⟩ = some (.int .u8 what) := hXW.cell 0
          have d1 : W1.cell? ⟨X, 1, none⟩ = some (.int .u8 x) := hXW.cell 1
          have d2 : W1.cell? ⟨X, 2, none⟩ = some (.int .i64 dist) := hXW.cell 2
          have d3 : W1.cell? ⟨X, 3, none⟩ = some (.int .i64 n) := hXW.cell 3
          have HX := Lib.hid hXW
          have HSl := Lib.hid hSl
          clear hXW c0 c1 c2 c3 hW hSl
          go_cut [7] (fun v7 wx => ∃ S' : ByteArray, v7 = .string S' ∧ S'.size ≤ 300 * (i + 1) ∧ Hid (OwnWin w wx p room S'.data.toList))
          case first =>
            by_cases k2 : what % 4 = 2
            · have k2' : (what % 4 == 2) = true := by simp [k2]
              as_aux_lemma =>
                clear k2
                have hszs : S.size ≤ 18000 := by omega
                obtain ⟨N, hN⟩ : ∃ N, (if 300 < n then 300 else n) = N := ⟨_, rfl⟩
                have hN1 : N ≤ 300 := by rw [← hN]; split <;> omega
                have hN2 : -9223372036854775808 ≤ N := by rw [← hN]; split <;> omega
                have HN := Lib.hid hN
                clear hN
                go_upto_if 65 with fail
                go_cut [10] (fun v10 wx => v10 = .int .i64 N ∧ wx = W1)
                case first =>
                  by_cases h3 : 300 < n
                  · obtain rfl : N = 300 := by have := HN.out; rw [if_pos h3] at this; exact this.symm
                    have h3' : decide (300 < n) = true := by simpa using h3
                    go_wp2
                    go_meet
                    case rel => exact ⟨rfl, rfl⟩
                  · obtain rfl : N = n := by have := HN.out; rw [if_neg h3] at this; exact this.symm
                    have h3' : decide (300 < N) = false := by simpa using h3
                    go_wp2
                    go_meet
                    case rel => exact ⟨rfl, rfl⟩
                case rest =>
                  obtain ⟨rfl, rfl⟩ := hcut
                  have hwr : IntKind.i64.wrap (room - (S.size : Int)) = room - S.size := IntWalk.i64_in _ (by omega)
                  by_cases hg : 1 ≤ dist ∧ dist ≤ S.size ∧ 0 ≤ N ∧ N ≤ room - S.size
                  · as_aux_lemma =>
                      obtain ⟨g1, g2, g3, g4⟩ := hg
                      obtain ⟨d, rfl⟩ := Int.eq_ofNat_of_zero_le (show 0 ≤ dist by omega)
                      obtain ⟨m, rfl⟩ := Int.eq_ofNat_of_zero_le g3
                      have e1 : decide (1 ≤ (d : Int)) = true := by simp; omega
                      have e2 : decide (d ≤ S.size) = true := by simp; omega
                      have e3 : decide (0 ≤ (m : Int)) = true := by simp
                      have e4 : decide ((m : Int) ≤ room - (S.size : Int)) = true := by simp; omega
                      have q1 : 1 ≤ d := by omega
                      have q2 : d ≤ S.size := by omega
                      have hcp := ownX_copy w _ X _ p room _ HX.out d m ⟨hr0, hr1⟩ q1 (by rw [HSl.out]; exact q2) (by rw [HSl.out]; exact g4) (by rw [HSl.out]; omega)
                      have Hcp := Lib.hid hcp
                      have Q1 := Lib.hid q1
                      have Q2 := Lib.hid q2
                      clear hcp g1 g2 g3 g4 q1 q2
                      go_wp2_with fail
                      refine Hcp.out.mono ?_
                      rintro e w3 ⟨rfl, h3⟩
                      have d2' : w3.cell? ⟨X, 2, none⟩ = some (.int .i64 (d : Int)) := h3.cell 2
                      have H3 := Lib.hid h3
                      clear h3
                      go_wp2_with fail
                      go_loop [7, 12] (fun v7 v12 => ∃ (j : Nat) (Sj : ByteArray), j ≤ m ∧ v7 = .string Sj ∧ v12 = .int .i64 (j : Int) ∧ Sj.size = S.size + j ∧ Hid (cpy d (m - j) Sj.data.toList = cpy d m S.data.toList)) (fun _ v12 => m - (intOf v12).toNat)
                      case atStart => exact ⟨0, S, Nat.zero_le _, rfl, rfl, rfl, rfl⟩
                      case round =>
                        obtain ⟨j, Sj, hj, rfl, rfl, hSj, hcj⟩ := hrel
                        have q1 := Q1.out
                        have q2 := Q2.out
                        by_cases hjm : j < m
                        · obtain ⟨q, hq⟩ : ∃ q : Nat, Sj.size - d = q := ⟨_, rfl⟩
                          have hsub : (Sj.size : Int) - (d : Int) = (q : Int) := by omega
                          have hwq : IntKind.i64.wrap (q : Int) = (q : Int) := IntWalk.i64_in _ (by omega)
                          have hq0 : (0 : Int) ≤ (q : Int) := by omega
                          have hq1 : (q : Int) + 1 ≤ (Sj.size : Int) := by omega
                          have hqn : q + 1 ≤ Sj.size := by omega
                          have hxs : (Sj.extract q (q + 1)).size = 1 := by rw [ByteArray.size_extract]; omega
                          have hcat : Sj.size + (Sj.extract q (q + 1)).size ≤ 1000000000 := by rw [hxs]; omega
                          have hnew : (Sj ++ Sj.extract q (q + 1)).data.toList = Sj.data.toList ++ [Sj.data.toList.getD (Sj.data.toList.length - d) 0] := by
                            have hl : Sj.data.toList.length = Sj.size := by simp
                            rw [ByteArray.data_append, Array.toList_append, ByteArray.data_extract, Array.toList_extract, List.extract_eq_take_drop, hl, hq]
                            congr 1
                            rw [List.drop_eq_getElem_cons (by omega)]
                            simp [List.getD, show q < Sj.size by omega]
                          have hsz2 : (Sj ++ Sj.extract q (q + 1)).size = S.size + (j + 1) := by rw [ByteArray.size_append, hxs]; omega
                          have hm300 : m ≤ 300 := by omega
                          have Hcat := Lib.hid hcat
                          have Hnew := Lib.hid hnew
                          have Hsz2 := Lib.hid hsz2
                          have Hq := Lib.hid hq
                          have HSj := Lib.hid hSj
                          have hjb : Sj.size ≤ 20000 := by omega
                          clear hcat hnew hsz2 hxs hq q1 q2 hSj
                          go_wp2_with (refine wpList_strcat (.tmp 103) (.tmp 116) 9 rfl rfl Sj (Sj.extract q (q + 1)) rfl rfl Hcat.out ?_)
                          go_round
                          case rel => exact ⟨j + 1, _, by omega, rfl, by go_num, Hsz2.out, by rw [Hnew.out]; show cpy d (m - (j + 1)) _ = _; rw [← hcj.out, show m - j = (m - (j + 1)) + 1 by omega]; rfl⟩
                          case measure => simp [intOf]; omega
                        · obtain rfl : j = m := by omega
                          have hfin : Sj.data.toList = cpy d j S.data.toList := by have := hcj.out; rw [Nat.sub_self] at this; exact this
                          have Hfin := Lib.hid hfin
                          have hfs : Sj.size ≤ 300 * (i + 1) := by omega
                          have Hfs := Lib.hid hfs
                          clear hfin hfs hSj q1 q2
                          go_wp2
                          go_meet
                          case rel => exact ⟨Sj, rfl, Hfs.out, by rw [Hfin.out]; exact H3.out.own⟩
                  · as_aux_lemma =>
                      have hcp := ownX_copy_no w _ X _ p room _ HX.out dist N ⟨hr0, hr1⟩ (by rw [HSl.out]; omega)
                      have Hcp := Lib.hid hcp
                      clear hcp
                      by_cases g1 : 1 ≤ dist
                      · have e1 : decide (1 ≤ dist) = true := by simpa using g1
                        by_cases g2 : dist ≤ (S.size : Int)
                        · have e2 : decide (dist ≤ (S.size : Int)) = true := by simpa using g2
                          by_cases g3 : 0 ≤ N
                          · have e3 : decide (0 ≤ N) = true := by simpa using g3
                            have e4 : decide (N ≤ room - (S.size : Int)) = false := by simp; omega
                            clear hg g1 g2 g3
                            go_wp2_with fail
                            refine Hcp.out.mono ?_
                            rintro e w3 ⟨rfl, h3⟩
                            have H3 := Lib.hid h3
                            clear h3
                            go_wp2_with fail
                            go_loop [7, 12] (fun v7 v12 => v7 = .string S ∧ v12 = .int .i64 0) (fun _ _ => 0)
                            case atStart => exact ⟨rfl, rfl⟩
                            case round =>
                              obtain ⟨rfl, rfl⟩ := hrel
                              go_wp2
                              go_meet
                              case rel => exact ⟨S, rfl, by omega, H3.out.own⟩
                          · have e3 : decide (0 ≤ N) = false := by simpa using g3
                            clear hg g1 g2 g3
                            go_wp2_with fail
                            refine Hcp.out.mono ?_
                            rintro e w3 ⟨rfl, h3⟩
                            have H3 := Lib.hid h3
                            clear h3
                            go_wp2_with fail
                            go_loop [7, 12] (fun v7 v12 => v7 = .string S ∧ v12 = .int .i64 0) (fun _ _ => 0)
                            case atStart => exact ⟨rfl, rfl⟩
                            case round =>
                              obtain ⟨rfl, rfl⟩ := hrel
                              go_wp2
                              go_meet
                              case rel => exact ⟨S, rfl, by omega, H3.out.own⟩
                        · have e2 : decide (dist ≤ (S.size : Int)) = false := by simpa using g2
                          clear hg g1 g2
                          go_wp2_with fail
                          refine Hcp.out.mono ?_
                          rintro e w3 ⟨rfl, h3⟩
                          have H3 := Lib.hid h3
                          clear h3
                          go_wp2_with fail
                          go_loop [7, 12] (fun v7 v12 => v7 = .string S ∧ v12 = .int .i64 0) (fun _ _ => 0)
                          case atStart => exact ⟨rfl, rfl⟩
                          case round =>
                            obtain ⟨rfl, rfl⟩ := hrel
                            go_wp2
                            go_meet
                            case rel => exact ⟨S, rfl, by omega, H3.out.own⟩
                      · have e1 : decide (1 ≤ dist) = false := by simpa using g1
                        clear hg g1
                        go_wp2_with fail
                        refine Hcp.out.mono ?_
                        rintro e w3 ⟨rfl, h3⟩
                        have H3 := Lib.hid h3
                        clear h3
                        go_wp2_with fail
                        go_loop [7, 12] (fun v7 v12 => v7 = .string S ∧ v12 = .int .i64 0) (fun _ _ => 0)
                        case atStart => exact ⟨rfl, rfl⟩
                        case round =>
                          obtain ⟨rfl, rfl⟩ := hrel
                          go_wp2
                          go_meet
                          case rel => exact ⟨S, rfl, by omega, H3.out.own⟩
            · have k2' : (what % 4 == 2) = false := by simp [k2]
              by_cases k3 : what % 4 = 3
              · have k3' : (what % 4 == 3) = true := by simp [k3]
                as_aux_lemma =>
                  clear k2 k3
                  have hszs : S.size ≤ 18000 := by omega
                  by_cases hg : 1 ≤ dist ∧ dist ≤ S.size
                  · obtain ⟨g1, g2⟩ := hg
                    obtain ⟨d, rfl⟩ := Int.eq_ofNat_of_zero_le (show 0 ≤ dist by omega)
                    have q1 : 1 ≤ d := by omega
                    have q2 : d ≤ S.size := by omega
                    obtain ⟨q, hq⟩ : ∃ q : Nat, S.size - d = q := ⟨_, rfl⟩
                    have hqs : q < S.size := by omega
                    have hat := ownX_at w _ X _ p room _ HX.out d q1 (by rw [HSl.out]; exact q2)
                    rw [HSl.out, hq, ← bytes_get S q hqs] at hat
                    have hsub : (S.size : Int) - (d : Int) = (q : Int) := by omega
                    have hwr : IntKind.i64.wrap (q : Int) = (q : Int) := IntWalk.i64_in _ (by omega)
                    have hq0 : (0 : Int) ≤ (q : Int) := by omega
                    have hq1 : (q : Int) < (S.size : Int) := by omega
                    have e1 : decide (1 ≤ (d : Int)) = true := by simp; omega
                    have e2 : decide (d ≤ S.size) = true := by simp; omega
                    have Hat := Lib.hid hat
                    clear g1 g2 hat hq q1 q2
                    go_wp2_with fail
                    refine Hat.out.mono ?_
                    rintro e w3 ⟨rfl, h3⟩
                    have d2' : w3.cell? ⟨X, 2, none⟩ = some (.int .i64 (d : Int)) := h3.cell 2
                    have H3 := Lib.hid h3
                    clear h3
                    go_wp2
                    go_meet
                    case rel => exact ⟨S, rfl, by omega, H3.out.own⟩
                  · have hat := ownX_at_no w _ X _ p room _ HX.out dist (by rw [HSl.out]; omega)
                    have Hat := Lib.hid hat
                    clear hat
                    by_cases g1 : 1 ≤ dist
                    · have g2 : ¬ dist ≤ (S.size : Int) := by omega
                      have e1 : decide (1 ≤ dist) = true := by simpa using g1
                      have e2 : decide (dist ≤ (S.size : Int)) = false := by simpa using g2
                      clear hg
                      go_wp2_with fail
                      refine Hat.out.mono ?_
                      rintro e w3 ⟨rfl, rfl⟩
                      go_wp2
                      go_meet
                      case rel => exact ⟨S, rfl, by omega, HX.out.own⟩
                    · have e1 : decide (1 ≤ dist) = false := by simpa using g1
                      clear hg
                      go_wp2_with fail
                      refine Hat.out.mono ?_
                      rintro e w3 ⟨rfl, rfl⟩
                      go_wp2
                      go_meet
                      case rel => exact ⟨S, rfl, by omega, HX.out.own⟩
              · have k3' : (what % 4 == 3) = false := by simp [k3]
                as_aux_lemma =>
                  clear k2 k3
                  by_cases hg : (S.size : Int) < room
                  · obtain ⟨B, hB⟩ : ∃ B : UInt8, x = B.toNat := ⟨UInt8.ofNat x.toNat, by simp; omega⟩
                    have hsm : (S.size : Int) < 1000000000 := by omega
                    have hg' : decide ((S.size : Int) < room) = true := by simpa using hg
                    have hput := ownX_put w _ X _ p room _ HX.out x B hB (by rw [HSl.out]; exact hg) (by rw [HSl.out]; exact hsm)
                    have Hput := Lib.hid hput
                    have HB := Lib.hid hB
                    clear hput hB
                    go_wp2_with fail
                    refine Hput.out.mono ?_
                    rintro e w3 ⟨rfl, h3⟩
                    have d1' : w3.cell? ⟨X, 1, none⟩ = some (.int .u8 x) := h3.cell 1
                    have H3 := Lib.hid h3
                    clear h3
                    have hT : (strOfNums [x]).size = 1 := rfl
                    have hcat : S.size + (strOfNums [x]).size ≤ 1000000000 := by rw [hT]; omega
                    have hfin : S.data.toList ++ [B] = (S ++ strOfNums [x]).data.toList := by
                      have := HB.out
                      subst this
                      simp [ByteArray.data_append, strOfNums]
                    have hfs : (S ++ strOfNums [x]).size ≤ 300 * (i + 1) := by rw [ByteArray.size_append, hT]; omega
                    have Hcat := Lib.hid hcat
                    have Hfin := Lib.hid hfin
                    have Hfs := Lib.hid hfs
                    clear hT hcat hfin hfs
                    go_wp2_with (first | (refine wpList_conv 29 9 (.tmp 57) rfl rfl _ _ _ rfl (conv_one w3 x) ?_) | (refine wpList_strcat (.tmp 54) (.tmp 58) 9 rfl rfl S (strOfNums [x]) rfl rfl Hcat.out ?_))
                    go_meet
                    case rel => exact ⟨_, rfl, Hfs.out, by rw [← Hfin.out]; exact (H3.out.allocs _).own⟩
                  · have hg' : decide ((S.size : Int) < room) = false := by simpa using hg
                    have hput := ownX_put_no w _ X _ p room _ HX.out x (by rw [HSl.out]; omega)
                    have Hput := Lib.hid hput
                    clear hput
                    go_wp2_with fail
                    refine Hput.out.mono ?_
                    rintro e w3 ⟨rfl, h3⟩
                    have H3 := Lib.hid h3
                    clear h3
                    go_wp2_with fail
                    go_meet
                    case rel => exact ⟨S, rfl, by omega, H3.out.own⟩
          case rest =>
            as_aux_lemma =>
              obtain ⟨S2, rfl, hS2, hW2⟩ := hcut
              have hlen2 := own_len w wc p room _ hW2.out
              have hl : S2.data.toList.length = S2.size := by simp
              rw [hl] at hlen2
              have hstr := own_str w wc p room S2 hW2.out
              have Hlen2 := Lib.hid hlen2
              have Hstr := Lib.hid hstr
              have Hs2 := Lib.hid hS2
              clear hlen2 hstr hl hS2
              go_wp2_with (first | (go_at_call 20; refine Hlen2.out.mono ?_; rintro e w' ⟨rfl, rfl⟩) | (go_at_call 18; refine Hstr.out.mono ?_; rintro e w' ⟨rfl, rfl⟩))
              go_roundw
              case rel => exact ⟨i + 1, S2, by omega, by omega, rfl, by go_num, Hs2.out, hW2⟩
              case measure => simp [intOf]; omega
        · as_aux_lemma =>
            have h60' : decide ((i : Int) < 60) = false := by simp; omega
            go_wp2_with (first | (go_at_call 19; refine (at_nil _ _).mono ?_; rintro e w' ⟨rfl, rfl⟩) | (go_at_call 16; refine (put_nil _ _).mono ?_; rintro e w' ⟨rfl, n1, rfl⟩) | (go_at_call 17; refine (copy_nil _ _ _).mono ?_; rintro e w' ⟨rfl, n2, rfl⟩) | (go_at_call 20; refine (len_nil _).mono ?_; rintro e w' ⟨rfl, rfl⟩) | (go_at_call 18; refine (text_nil _).mono ?_; rintro e w' ⟨rfl, rfl⟩))
            go_ret
            exact ⟨rfl, by first | exact below_draw hW.out.below _ | exact below_draw (below_draw hW.out.below _) _⟩
      · as_aux_lemma =>
          go_wp2_with (first | (go_at_call 19; refine (at_nil _ _).mono ?_; rintro e w' ⟨rfl, rfl⟩) | (go_at_call 16; refine (put_nil _ _).mono ?_; rintro e w' ⟨rfl, n1, rfl⟩) | (go_at_call 17; refine (copy_nil _ _ _).mono ?_; rintro e w' ⟨rfl, n2, rfl⟩) | (go_at_call 20; refine (len_nil _).mono ?_; rintro e w' ⟨rfl, rfl⟩) | (go_at_call 18; refine (text_nil _).mono ?_; rintro e w' ⟨rfl, rfl⟩))
          go_ret
          exact ⟨rfl, by first | exact below_draw hW.out.below _ | exact below_draw (below_draw hW.out.below _) _⟩
end Go.Proofs.Ytfmoagdhajfngaa
