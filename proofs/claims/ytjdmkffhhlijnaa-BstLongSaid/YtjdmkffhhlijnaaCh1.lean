/- Walks of layer 07 (chain): how many bytes are alike; the document's count. -/
import Derived.Test.YtjdmkffhhlijnaaFr
import Derived.Test.YtjdmkffhhlijnaaApp
import Derived.Test.YtjdmkffhhlijnaaChM
import Derived.Test.YtjdmkffhhlijnaaProg
import Derived.WalkKit
import Derived.Deep.QuietTactic
import Derived.BigQuiet
import Derived.KernelRfl
import Derived.BigRegion
import Derived.Deep.RegionWith
import Derived.Deep.RegionLaw
import Derived.Deep.CutBlock
import Derived.Deep.DeepCutAuto
namespace Go.Proofs.Ytjdmkffhhlijnaa
set_option linter.unusedVariables false
open Go.RowKit Go.My Go.Ch

theorem str_index (s : ByteArray) (j : Nat) (h : j < s.size) (k : Int) (hk : k = j) (x : Int) (hx : ((s[j]).toNat : Int) = x) (w : World) :
    (Instr.index 9 (.string s) (.int .i64 k)).run Try.prog w = .ok (.int .u8 x) w := by
  subst hk
  subst hx
  have h0 : (0 : Int) ≤ j := by omega
  have h1 : (j : Int) < s.size := by omega
  have hu := Try.runUnderlying9
  simp [Instr.index, go_sem, h0, h]
theorem str_at (s : ByteArray) (j : Nat) (h : j < s.size) : s[j] = s.data.toList.getD j 0 := by
  cases s with
  | mk d =>
    have h2 : j < d.toList.length := h
    simp only [List.getD, List.getElem?_eq_getElem h2, Option.getD_some]
    rfl

set_option maxHeartbeats 2000000 in
set_option maxRecDepth 100000 in
theorem alike_is (s : ByteArray) (hs : s.size ≤ 1000) (a b : Nat) (hab : a < b) (hb : b ≤ s.size) (w : World) :
    Calls Try.prog 19 #[.string s, .int .i64 (a : Int), .int .i64 (b : Int)] w fun e w' => e = .returned (.int .i64 (alike s.data.toList a b : Nat)) ∧ Fr (fun _ => False) w w' := by
  obtain ⟨l, hl⟩ : ∃ l, s.data.toList = l := ⟨_, rfl⟩
  have hsz : s.size = l.length := by rw [← hl]; simp
  have hat : ∀ j (h : j < s.size), s[j] = l.getD j 0 := fun j h => by rw [← hl]; exact str_at s j h
  rw [hl]
  obtain ⟨R, hR⟩ : ∃ R, alike l a b = R := ⟨_, rfl⟩
  obtain ⟨M, hM⟩ : ∃ M, most l b = M := ⟨_, rfl⟩
  have hRM : alk l a b M 0 = R := by rw [← hR, ← hM]; rfl
  have hMd : M = min (s.size - b) 273 := by rw [← hM, hsz]; rfl
  rw [hR]
  have HRM := Lib.hid hRM
  have Hat := Lib.hid hat
  have HMd := Lib.hid hMd
  clear hl hsz hat hR hM hRM
  have hsbI : (0 : Int) ≤ (s.size : Int) - (b : Int) := by omega
  rcases Nat.lt_or_ge 273 (s.size - b) with hc | hc
  case' inl => have hcI : (273 : Int) < (s.size : Int) - (b : Int) := by omega
  case' inr => have hcI : ¬ ((273 : Int) < (s.size : Int) - (b : Int)) := by omega
  all_goals
    go_enter Try.func19, Try.ntmps19
    go_upto_block 0 with fail
  all_goals first
    | (have e : (273 : Int) = (M : Int) := by { have := HMd.out; omega }
       rw [e]
       clear e)
    | (have e : (s.size : Int) - (b : Int) = (M : Int) := by { have := HMd.out; omega }
       rw [e]
       clear e)
  all_goals
    clear hMd hsbI hcI hc
    go_wp2
    go_loopw [8] (fun v8 wr => ∃ n : Nat, n ≤ M ∧ v8 = .int .i64 (n : Int) ∧ Hid (alk l a b (M - n) n = R) ∧ Hid (Fr (fun _ => False) w wr)) (fun v8 _ => M - (intOf v8).toNat)
    case atStart => exact ⟨0, by omega, rfl, HRM, Fr.refl _ _⟩
    case round =>
      obtain ⟨n, hn, rfl, hk, KF⟩ := hrel
      have hMb : M ≤ s.size - b ∧ M ≤ 273 := by have := HMd.out; omega
      have hM273 : (M : Int) ≤ 273 := by have := hMb.2; omega
      by_cases hlt : n < M
      · have hlI : (n : Int) < (M : Int) := by omega
        obtain ⟨q1, hq1⟩ : ∃ q, a + n = q := ⟨_, rfl⟩
        obtain ⟨q2, hq2⟩ : ∃ q, b + n = q := ⟨_, rfl⟩
        have e1 : IntKind.i64.wrap ((a : Int) + (n : Int)) = (q1 : Int) := by rw [IntWalk.i64_in _ (by omega)]; omega
        have e2 : IntKind.i64.wrap ((b : Int) + (n : Int)) = (q2 : Int) := by rw [IntWalk.i64_in _ (by omega)]; omega
        obtain ⟨x, hx⟩ : ∃ x, l.getD q1 0 = x := ⟨_, rfl⟩
        obtain ⟨y, hy⟩ : ∃ y, l.getD q2 0 = y := ⟨_, rfl⟩
        have i1 : ∀ U, (Instr.index 9 (.string s) (.int .i64 (q1 : Int))).run Try.prog U = .ok (.int .u8 (x.toNat : Int)) U := str_index s q1 (by omega) _ rfl _ (by rw [Hat.out, hx])
        have i2 : ∀ U, (Instr.index 9 (.string s) (.int .i64 (q2 : Int))).run Try.prog U = .ok (.int .u8 (y.toNat : Int)) U := str_index s q2 (by omega) _ rfl _ (by rw [Hat.out, hy])
        have hst : alk l a b (M - n) n = if x = y then alk l a b (M - (n + 1)) (n + 1) else n := by
          rw [show M - n = (M - (n + 1)) + 1 by omega]
          simp only [alk]
          rw [hq1, hq2, hx, hy]
        by_cases hxy : x = y
        · rw [if_pos hxy] at hst
          have Hst := Lib.hid (hst.symm.trans hk.out)
          subst hxy
          clear hst hk hx hy hq1 hq2 hMb
          go_upto_region 3 with fail
          go_region
          all_goals go_wp2
          all_goals go_roundw
          all_goals first
            | exact ⟨n + 1, by omega, by go_num, Hst, KF.out.drew⟩
            | (simp [intOf]; omega)
        · rw [if_neg hxy] at hst
          have hnR : n = R := hst.symm.trans hk.out
          have hxyI : ((x.toNat : Int) == (y.toNat : Int)) = false := by
            have : ¬ ((x.toNat : Int) = (y.toNat : Int)) := fun h => hxy (UInt8.toNat_inj.1 (by omega))
            simp [this]
          clear hst hk hx hy hq1 hq2 hMb hxy
          subst hnR
          go_upto_region 3 with fail
          go_region
          all_goals go_wp2
          all_goals go_ret
          all_goals exact ⟨rfl, KF.out.drew⟩
      · obtain rfl : n = M := by omega
        have hnR : alk l a b (n - n) n = n := by rw [Nat.sub_self]; rfl
        have hR2 : n = R := hnR.symm.trans hk.out
        subst hR2
        clear hlt hn hk hnR hMb
        go_upto_region 3 with fail
        go_region
        all_goals go_wp2
        all_goals go_ret
        all_goals exact ⟨rfl, KF.out.drew⟩

set_option maxHeartbeats 2000000 in
set_option maxRecDepth 100000 in
theorem matches_is (s : ByteArray) (hs : s.size ≤ 1000) (i d : Nat) (hd : 1 ≤ d) (hdi : d ≤ i) (hi : i ≤ s.size) (w : World) :
    Calls Try.prog 20 #[.string s, .int .i64 (i : Int), .int .i64 (d : Int)] w fun e w' => e = .returned (.int .i64 (alike s.data.toList (i - d) i : Nat)) ∧ Fr (fun _ => False) w w' := by
  obtain ⟨l, hl⟩ : ∃ l, s.data.toList = l := ⟨_, rfl⟩
  have hsz : s.size = l.length := by rw [← hl]; simp
  have hat : ∀ j (h : j < s.size), s[j] = l.getD j 0 := fun j h => by rw [← hl]; exact str_at s j h
  rw [hl]
  obtain ⟨R, hR⟩ : ∃ R, alike l (i - d) i = R := ⟨_, rfl⟩
  obtain ⟨M, hM⟩ : ∃ M, most l i = M := ⟨_, rfl⟩
  have hRM : alk l (i - d) i M 0 = R := by rw [← hR, ← hM]; rfl
  have hMd : M = min (s.size - i) 273 := by rw [← hM, hsz]; rfl
  rw [hR]
  have HRM := Lib.hid hRM
  have Hat := Lib.hid hat
  have HMd := Lib.hid hMd
  clear hl hsz hat hR hM hRM hMd
  go_enter Try.func20, Try.ntmps20
  go_wp2
  go_loopw [7] (fun v7 wr => ∃ n : Nat, n ≤ M ∧ v7 = .int .i64 (n : Int) ∧ Hid (alk l (i - d) i (M - n) n = R) ∧ Hid (Fr (fun _ => False) w wr)) (fun v7 _ => M - (intOf v7).toNat)
  case atStart => exact ⟨0, by omega, rfl, HRM, Fr.refl _ _⟩
  case round =>
    obtain ⟨n, hn, rfl, hk, KF⟩ := hrel
    have hMb : M ≤ s.size - i ∧ M ≤ 273 := by have := HMd.out; omega
    have hM273 : (M : Int) ≤ 273 := by have := hMb.2; omega
    obtain ⟨q2, hq2⟩ : ∃ q, i + n = q := ⟨_, rfl⟩
    have e2 : IntKind.i64.wrap ((i : Int) + (n : Int)) = (q2 : Int) := by rw [IntWalk.i64_in _ (by omega)]; omega
    by_cases hlt : n < M
    · have hlI : (q2 : Int) < (s.size : Int) := by omega
      have hl2 : (n : Int) < 273 := by omega
      obtain ⟨q1, hq1⟩ : ∃ q, i - d + n = q := ⟨_, rfl⟩
      have e1 : IntKind.i64.wrap ((q2 : Int) - (d : Int)) = (q1 : Int) := by rw [IntWalk.i64_in _ (by omega)]; omega
      obtain ⟨x, hx⟩ : ∃ x, l.getD q1 0 = x := ⟨_, rfl⟩
      obtain ⟨y, hy⟩ : ∃ y, l.getD q2 0 = y := ⟨_, rfl⟩
      have i1 : ∀ U, (Instr.index 9 (.string s) (.int .i64 (q1 : Int))).run Try.prog U = .ok (.int .u8 (x.toNat : Int)) U := str_index s q1 (by omega) _ rfl _ (by rw [Hat.out, hx])
      have i2 : ∀ U, (Instr.index 9 (.string s) (.int .i64 (q2 : Int))).run Try.prog U = .ok (.int .u8 (y.toNat : Int)) U := str_index s q2 (by omega) _ rfl _ (by rw [Hat.out, hy])
      have hst : alk l (i - d) i (M - n) n = if x = y then alk l (i - d) i (M - (n + 1)) (n + 1) else n := by
        rw [show M - n = (M - (n + 1)) + 1 by omega]
        simp only [alk]
        rw [hq1, hq2, hx, hy]
      by_cases hxy : x = y
      · rw [if_pos hxy] at hst
        have Hst := Lib.hid (hst.symm.trans hk.out)
        subst hxy
        clear hst hk hx hy hq1 hq2 hMb
        go_upto_region 2 with fail
        go_region
        all_goals go_wp2
        all_goals go_roundw
        all_goals first
          | exact ⟨n + 1, by omega, by go_num, Hst, KF.out.drew⟩
          | (simp [intOf]; omega)
      · rw [if_neg hxy] at hst
        have hnR : n = R := hst.symm.trans hk.out
        have hxyI : ((y.toNat : Int) == (x.toNat : Int)) = false := by
          have : ¬ ((y.toNat : Int) = (x.toNat : Int)) := fun h => hxy (UInt8.toNat_inj.1 (by omega))
          simp [this]
        clear hst hk hx hy hq1 hq2 hMb hxy
        subst hnR
        go_upto_region 2 with fail
        go_region
        all_goals go_wp2
        all_goals go_ret
        all_goals exact ⟨rfl, KF.out.drew⟩
    · obtain rfl : n = M := by omega
      have hnR : alk l (i - d) i (n - n) n = n := by rw [Nat.sub_self]; rfl
      have hR2 : n = R := hnR.symm.trans hk.out
      subst hR2
      have hx2 : ((q2 : Int) < (s.size : Int) → ¬ ((n : Int) < 273)) := by have := HMd.out; omega
      by_cases hc : (q2 : Int) < (s.size : Int)
      · have hx3 := hx2 hc
        clear hlt hn hk hnR hMb hx2 hq2
        go_upto_region 2 with fail
        go_region
        all_goals go_wp2
        all_goals go_ret
        all_goals exact ⟨rfl, KF.out.drew⟩
      · clear hlt hn hk hnR hMb hx2 hq2
        go_upto_region 2 with fail
        go_region
        all_goals go_wp2
        all_goals go_ret
        all_goals exact ⟨rfl, KF.out.drew⟩
end Go.Proofs.Ytjdmkffhhlijnaa
