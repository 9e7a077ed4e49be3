/- Walks of layer 23 (sha): a text lengthened. -/
import Derived.Test.YtmcenocmilhekaaDoorSh1
import Derived.Test.YtmcenocmilhekaaDoorBr
import Derived.Test.YtmcenocmilhekaaDoorArr
import Derived.Deep.RegionHeld3
import Derived.Deep.RegionLaw
import Derived.BigRegion
import Derived.StillTailTactics
import Derived.Deep.CutBlock
import Derived.Deep.DeepCutAuto
import Derived.Laws.BytesArg
namespace Go.Proofs.YtmcenocmilhekaaDoor
set_option linter.unusedVariables false
open Go.RowKit Go.My Go.Sha

set_option maxRecDepth 100000 in
theorem lengthen_is (s : ByteArray) (hs : s.size ≤ 1000000) (w : World) :
    Calls Tryd.prog 17 #[.string s] w fun e w' => e = .returned (.string ⟨(padL s.data.toList).toArray⟩) ∧ Fr (fun _ => False) w w' := by
  obtain ⟨l, hl⟩ : ∃ l, s.data.toList = l := ⟨_, rfl⟩
  have hsz : s.size = l.length := by rw [← hl]; simp
  obtain ⟨n, hn⟩ : ∃ n, l.length = n := ⟨_, rfl⟩
  have hsn : s.size = n := by omega
  have hmade := Br.made w w.heap.size (Nat.le_refl _) s
  have hfr := fr_made w s
  have hcv := Lib.run_convert_string_bytes (P := Tryd.prog) w 9 33 5 s Tryd.underlying9 Tryd.underlying33 Tryd.underlying5
  rw [hl] at hmade
  rw [hsn] at hmade hcv
  have Hmade := Lib.hid hmade
  have Hfr := Lib.hid hfr
  have Hcv := Lib.hid hcv
  have Hn := Lib.hid hn
  rw [hl]
  have hnl : n ≤ 1000000 := by omega
  clear hmade hfr hcv hl hsz hs hn
  generalize grownCap w n 0 5 = cp at *
  go_enter Tryd.func17, Tryd.ntmps17
  go_upto_block 0 with (first
    | refine wpList_cv 9 33 _ rfl rfl _ _ rfl Hcv.out ?_
    | (at_builtin; refine wpList_br Hmade.out Hfr.out.size (by rw [Hn.out]; omega) 128 _ rfl rfl _ _ rfl rfl rfl ?_; intro v4 w1 h1 h2; have HB := Lib.hid h1; have HF := Lib.hid (Hfr.out.trans h2 (fun k hk => .inr hk)); clear h1 h2))
  clear Hmade Hfr Hcv
  have hsz := Hn.out
  go_cut [4] (fun v4 wx => Hid (Fr (fun _ => False) w wx) ∧ Hid (Br wx w.heap.size v4 (l ++ [128] ++ List.replicate (zeros n) 0)))
  case first =>
    go_wp2
    go_loopw [4] (fun v4 wr => ∃ k : Nat, k ≤ zeros n ∧ Hid (Fr (fun _ => False) w wr) ∧ Hid (Br wr w.heap.size v4 (l ++ [128] ++ List.replicate k 0))) (fun v4 _ => zeros n + n + 1 - lenOf v4)
    case atStart => exact ⟨0, Nat.zero_le _, HF, by simpa using HB⟩
    case round =>
      obtain ⟨k, hk, KF, KB⟩ := hrel
      obtain ⟨g, cap, hv⟩ := KB.out.any (n + 1 + k) (by simp; omega)
      subst hv
      have hz : zeros n = 64 * ((n + 72) / 64) - 9 - n := rfl
      by_cases hlt : k < zeros n
      · have ht : (((n + 1 + k : Nat) : Int) % 64 == 56) = false := by simp; omega
        obtain ⟨m, hm⟩ : ∃ m, n + 1 + k = m := ⟨_, rfl⟩
        rw [hm] at ht KB
        rw [hm]
        have Hm := Lib.hid hm
        have Hlt := Lib.hid hlt
        have Hz := Lib.hid hz
        have Hk := Lib.hid hk
        clear hm hlt hz hk
        go_wp2_with (at_builtin; refine wpList_br KB.out KF.out.size (by simp; have := Hm.out; have := Hz.out; have := Hlt.out; omega) 0 _ rfl rfl _ _ rfl rfl rfl ?_; intro v5 w2 h1 h2; have JB := Lib.hid h1; have JF := Lib.hid (KF.out.trans h2 (fun k hk => .inr hk)); clear h1 h2)
        go_roundw
        case rel => exact ⟨k + 1, Hlt.out, JF, by rw [List.replicate_succ', ← List.append_assoc]; exact JB⟩
        case measure =>
          rw [JB.out.lenOf, lenOf]
          simp
          have := Hm.out
          have := Hlt.out
          omega
      · obtain rfl : k = zeros n := by omega
        have ht : (((n + 1 + zeros n : Nat) : Int) % 64 == 56) = true := by simp; omega
        obtain ⟨m, hm⟩ : ∃ m, n + 1 + zeros n = m := ⟨_, rfl⟩
        rw [hm] at ht KB
        rw [hm]
        clear hm hlt hz hk
        go_wp2
        go_meet
        exact ⟨KF, KB⟩
  case rest =>
    obtain ⟨KF, KB⟩ := hcut
    clear HF HB
    go_wp2
    go_loopw [4, 19] (fun v4 v19 wr => ∃ i : Nat, i ≤ 8 ∧ v19 = .int .i64 (i : Int) ∧ Hid (Fr (fun _ => False) w wr) ∧ Hid (Br wr w.heap.size v4 (l ++ [128] ++ List.replicate (zeros n) 0 ++ tailL n i))) (fun _ v19 _ => 8 - (intOf v19).toNat)
    case atStart => exact ⟨0, by omega, rfl, KF, by simpa [tailL] using KB⟩
    case round =>
      obtain ⟨i, hi, rfl, JF, JB⟩ := hrel
      clear KF KB
      by_cases hlt : i < 8
      · have hlI : (i : Int) < 8 := by omega
        have hu : (n : Int) * 8 / 2 ^ (8 * (7 - i)) % 256 = ((tailB n i).toNat : Int) := by
          simp only [tailB, Nat.toUInt8, UInt8.toNat_ofNat']
          norm_cast
        have Hu := Lib.hid hu
        obtain ⟨ln, hln⟩ : ∃ ln, (l ++ [128] ++ List.replicate (zeros n) 0 ++ tailL n i).length = ln := ⟨_, rfl⟩
        have hbound : ln ≤ 1000000000 := by
          rw [← hln]
          simp only [tailL, zeros, chunks, List.length_append, List.length_map, List.length_range, List.length_replicate, List.length_cons, List.length_nil]
          omega
        obtain ⟨g, cap, hv⟩ := JB.out.any ln hln
        subst hv
        have Hln := Lib.hid hln
        have Hb := Lib.hid hbound
        clear hu hln hbound hsz
        go_wp2_with (at_builtin; refine wpList_br JB.out JF.out.size (by rw [Hln.out]; exact Hb.out) (tailB n i) _ (congrArg _ Hu.out) rfl _ _ rfl rfl rfl ?_; intro v5 w2 h1 h2; have IB := Lib.hid h1; have IF := Lib.hid (JF.out.trans h2 (fun k hk => .inr hk)); clear h1 h2)
        go_roundw
        case rel => exact ⟨i + 1, by omega, by go_num, IF, by rw [tailL, List.range_succ, List.map_append, ← List.append_assoc]; exact IB⟩
        case measure => simp [intOf]; omega
      · obtain rfl : i = 8 := by omega
        have htx := JB.out.text
        rw [show l ++ [128] ++ List.replicate (zeros n) 0 ++ tailL n 8 = padL l by rw [← hsz]; rfl] at htx
        have Htx := Lib.hid htx
        clear htx hlt hi hsz
        go_wp2_with (refine wpList_cv 33 9 _ rfl rfl _ _ rfl Htx.out ?_)
        go_ret
        exact ⟨rfl, JF.out⟩
end Go.Proofs.YtmcenocmilhekaaDoor
