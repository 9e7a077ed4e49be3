/- WindowTurns: the walk of the law. -/
import Derived.Test.YtfmoagdhajfngaaWinO
namespace Go.Proofs.Ytfmoagdhajfngaa
open Go.RowKit Go.My

theorem bytes_get (s : ByteArray) (i : Nat) (h : i < s.size) : s[i]'h = s.data.toList.getD i 0 := by
  simp [ByteArray.getElem_eq_getElem_data, List.getD, h]

theorem below_draw {B : Nat} {w w' : World} (h : Below B w w') (n : Nat) : Below B w (w'.drewN n) := ⟨h.os, h.tape, h.output, h.size, h.block⟩

set_option maxHeartbeats 1000000 in
set_option maxRecDepth 100000 in
theorem windowTurns_walk (s : ByteArray) (dist n : Int) (hs : s.size ≤ 140737488351232) (hd : 0 ≤ dist ∧ dist < 65536) (hn : 0 ≤ n ∧ n < 65536) (w : World) :
    Calls Try.prog 5 #[.string s, .int .u16 dist, .int .u16 n] w fun e w' => e = .returned (.bool true) ∧ Below w.heap.size w w' := by
  obtain ⟨hd0, hd1⟩ := hd
  obtain ⟨hn0, hn1⟩ := hn
  obtain ⟨d, hd2⟩ : ∃ d : Nat, dist % 70 = (d : Int) := ⟨(dist % 70).toNat, by omega⟩
  obtain ⟨k, hk2⟩ : ∃ k : Nat, n % 400 = (k : Int) := ⟨(n % 400).toNat, by omega⟩
  have hd3 : d < 70 := by omega
  have hk3 : k < 400 := by omega
  have Hd2 := Lib.hid hd2
  have Hk2 := Lib.hid hk2
  clear hd2 hk2
  go_enter Try.func5, Try.ntmps5
  go_upto_region 3 with (go_at_call 14; refine (speaks02 _).mono ?_; rintro e w1 ⟨rfl, hb1⟩)
  go_cut [0] (fun v0 w' => ∃ t : ByteArray, t.size ≤ 60 ∧ v0 = .string t ∧ w' = w1)
  case first =>
    by_cases h3 : s.size ≤ 60
    · go_wp2
      go_meet
      case rel => refine ⟨_, ?_, rfl, rfl⟩; (first | omega | (rw [ByteArray.size_extract]; omega))
    · go_wp2
      go_meet
      case rel => refine ⟨_, ?_, rfl, rfl⟩; (first | omega | (rw [ByteArray.size_extract]; omega))
  case rest =>
    obtain ⟨t, ht, rfl, rfl⟩ := hcut
    have hlen : t.data.toList.length = t.size := by simp
    have Hlen := Lib.hid hlen
    have Hb1 := Lib.hid hb1
    clear hlen hb1
    go_wp2_with fail
    refine (own_new w _ Hb1.out 1000).mono ?_
    rintro e w2 ⟨rfl, h2⟩
    generalize wc.heap.size = p at *
    have H2 := Lib.hid h2
    clear h2
    go_wp2_with fail
    go_loopw [8] (fun v8 wr => ∃ i : Nat, i ≤ t.size ∧ v8 = .int .i64 (i : Int) ∧ Hid (OwnWin w wr p 1000 (t.data.toList.take i))) (fun v8 _ => t.size - (intOf v8).toNat)
    case atStart => exact ⟨0, Nat.zero_le _, rfl, H2⟩
    case round =>
      obtain ⟨i, hi, rfl, hW⟩ := hrel
      by_cases hlt : i < t.size
      · have hsn : (t.data.toList.take (i + 1)) = t.data.toList.take i ++ [t[i]'hlt] := by
          rw [List.take_succ_eq_append_getElem (by rw [Hlen.out]; exact hlt)]; rfl
        have Hsn := Lib.hid hsn
        have hl2 : (t.data.toList.take i).length = i := by rw [List.length_take, Hlen.out]; omega
        have Hl2 := Lib.hid hl2
        clear hsn hl2
        go_wp2_with (go_at_call 16; refine (own_put w _ p 1000 _ (t[i]'hlt) rfl _ hW.out (by rw [Hl2.out]; omega) (by rw [Hl2.out]; omega)).mono ?_; rintro e w3 ⟨rfl, h3⟩; have H3 := Lib.hid h3; clear h3)
        go_roundw
        case rel => exact ⟨i + 1, by omega, by go_num, by rw [Hsn.out]; exact H3⟩
        case measure => simp [intOf]; omega
      · obtain rfl : i = t.size := by omega
        have hW2 : OwnWin w wr p 1000 t.data.toList := by have := hW.out; rwa [List.take_of_length_le (by rw [Hlen.out]; omega)] at this
        have HW2 := Lib.hid hW2
        clear hW hW2
        by_cases hgood : 1 ≤ d ∧ d ≤ t.size
        · obtain ⟨hg1, hg2⟩ := hgood
          have g1 : decide (1 ≤ (d : Int)) = true := by simp; omega
          have g2 : decide (d ≤ t.size) = true := by simp; omega
          have g3 : decide ((d : Int) < 1) = false := by simp; omega
          have g4 : decide (t.size < d) = false := by simp; omega
          have hdm : dist % 70 = (d : Int) := Hd2.out
          have hkm : n % 400 = (k : Int) := Hk2.out
          obtain ⟨B, hB⟩ : ∃ B : ByteArray, B.data.toList = cpy d k t.data.toList := ⟨⟨(cpy d k t.data.toList).toArray⟩, by simp⟩
          have hBs : B.size = t.size + k := by
            have := congrArg List.length hB
            rw [cpy_length, Hlen.out] at this
            simpa using this
          have htake : B.extract 0 t.size = t := by
            apply ByteArray.ext
            apply Array.toList_inj.1
            rw [ByteArray.data_extract, Array.toList_extract, hB]
            simp only [List.extract_eq_take_drop, List.drop_zero, Nat.sub_zero]
            have := cpy_take d k t.data.toList
            rwa [Hlen.out] at this
          have hturn : ∀ i, t.size ≤ i → i < t.size + k → B.data.toList.getD i 0 = B.data.toList.getD (i - d) 0 := fun i hi hj => by
            rw [hB]
            exact cpy_turns d hg1 k _ (by rw [Hlen.out]; exact hg2) i (by rw [Hlen.out]; exact hi) (by rw [Hlen.out]; exact hj)
          have HBs := Lib.hid hBs
          have Htake := Lib.hid htake
          have Hturn := Lib.hid hturn
          have HB := Lib.hid hB
          clear hBs htake hturn hB
          go_wp2_with (first | (go_at_call 17; refine (own_copy w _ p 1000 d k _ HW2.out (by omega) hg1 (by rw [Hlen.out]; omega) (by rw [Hlen.out]; omega) (by rw [Hlen.out]; omega)).mono ?_; rintro e w3 ⟨rfl, h3⟩; have H3 := Lib.hid h3; clear h3) | (go_at_call 18; refine (own_str w _ p 1000 B (by rw [HB.out]; exact H3.out)).mono ?_; rintro e w4 ⟨rfl, rfl⟩))
          go_loopw [12] (fun v12 wq => ∃ i : Nat, t.size ≤ i ∧ i ≤ t.size + k ∧ v12 = .int .i64 (i : Int) ∧ Hid (Below w.heap.size w wq)) (fun v12 _ => B.size - (intOf v12).toNat)
          case atStart => exact ⟨t.size, by omega, by omega, rfl, H3.out.below⟩
          case round =>
            obtain ⟨i, hi1, hi2, rfl, hbel⟩ := hrel
            have hBs2 := HBs.out
            by_cases hlt : i < t.size + k
            · have hib : i < B.size := by omega
              obtain ⟨q, hq⟩ : ∃ q : Nat, (i : Int) - (d : Int) = (q : Int) := ⟨i - d, by omega⟩
              have hqb : q < B.size := by omega
              have hw : IntKind.i64.wrap (q : Int) = (q : Int) := IntWalk.i64_in _ (by omega)
              have hsame : B[i]'hib = B[q]'hqb := by
                rw [bytes_get, bytes_get, Hturn.out i hi1 hlt]
                congr 1
                omega
              have hne : (((B[i]'hib).toNat : Int) != ((B[q]'hqb).toNat : Int)) = false := by rw [hsame]; simp
              have hq0 : (0 : Int) ≤ (q : Int) := by omega
              have hq1 : (q : Int) < (B.size : Int) := by omega
              have hi0 : (0 : Int) ≤ (i : Int) := by omega
              have hi3 : (i : Int) < (B.size : Int) := by omega
              have hBs3 : B.size ≤ 1000 := by omega
              have Hsame := Lib.hid hsame
              clear hsame hBs2 hi2
              go_wp2
              go_quiet (fail)
              go_wp2
              go_roundw
              case rel => exact ⟨i + 1, by omega, by omega, by go_num, below_draw hbel.out _⟩
              case measure => simp [intOf]; omega
            · obtain rfl : i = t.size + k := by omega
              have htake := Htake.out
              have hsz : ((B.size : Int) == (t.size : Int) + (k : Int)) = true := by simp [hBs2]
              have hBs3 : B.size ≤ 1000 := by omega
              have hBs4 : t.size ≤ B.size := by omega
              have hBs5 : ¬ (t.size : Int) + (k : Int) < (B.size : Int) := by omega
              clear hBs2
              go_wp2
              go_ret
              exact ⟨rfl, hbel.out⟩
        · have hdm : dist % 70 = (d : Int) := Hd2.out
          have hkm : n % 400 = (k : Int) := Hk2.out
          have hbad : (d : Int) < 1 ∨ (t.size : Int) < (d : Int) := by omega
          have Hbad := Lib.hid hbad
          clear hgood hbad
          by_cases h1 : d = 0
          · subst h1
            go_wp2_with (first | (go_at_call 17; refine (own_copy_no w _ p 1000 _ _ _ HW2.out (by omega) (by rw [Hlen.out]; exact Hbad.out.elim .inl (fun h => .inr (.inl h)))).mono ?_; rintro e w3 ⟨rfl, h3⟩; have H3 := Lib.hid h3; clear h3) | (go_at_call 18; refine (own_str w _ p 1000 t H3.out).mono ?_; rintro e w4 ⟨rfl, rfl⟩))
            go_ret
            exact ⟨rfl, H3.out.below⟩
          · have g1 : decide (1 ≤ (d : Int)) = true := by simp; omega
            have g2 : decide (d ≤ t.size) = false := by have := Hbad.out; simp; omega
            have g3 : decide ((d : Int) < 1) = false := by simp; omega
            have g4 : decide (t.size < d) = true := by have := Hbad.out; simp; omega
            go_wp2_with (first | (go_at_call 17; refine (own_copy_no w _ p 1000 _ _ _ HW2.out (by omega) (by rw [Hlen.out]; exact Hbad.out.elim .inl (fun h => .inr (.inl h)))).mono ?_; rintro e w3 ⟨rfl, h3⟩; have H3 := Lib.hid h3; clear h3) | (go_at_call 18; refine (own_str w _ p 1000 t H3.out).mono ?_; rintro e w4 ⟨rfl, rfl⟩))
            go_ret
            exact ⟨rfl, H3.out.below⟩
end Go.Proofs.Ytfmoagdhajfngaa
