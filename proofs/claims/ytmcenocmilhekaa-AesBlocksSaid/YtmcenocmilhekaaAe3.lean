/- Walks of layer 25's reference: the boxes. -/
import Derived.Test.YtmcenocmilhekaaAe2
import Derived.Test.YtmcenocmilhekaaAeB
import Derived.Deep.CutBlock
import Derived.Deep.DeepCutAuto
namespace Go.Proofs.Ytmcenocmilhekaa
set_option linter.unusedVariables false
open Go.RowKit Go.My Go.Aes

def boxV (n : Nat) : List Value := (List.range n).map fun x => Value.int .i64 (box x : Nat)
theorem boxV_next (n : Nat) : boxV (n + 1) = boxV n ++ [.int .i64 (box n : Nat)] := by simp [boxV, List.range_succ]
theorem infoI : (Try.prog.info? 3).map (fun i => (i.zero, i.size, i.bytes)) = some (some (.int .i64 0), 1, 8) := by kernel_rfl
/-- The boxes, as a row. -/
def BoxRow (w : World) (v : Value) : Prop := ∃ q cap, v = .slice (some ⟨q, 0, none⟩) 256 cap ∧ ∀ x, x < 256 → w.cell? ⟨q, x, none⟩ = some (.int .i64 (box x : Nat))
theorem BoxRow.keep {w w' : World} {v : Value} (h : BoxRow w v) (hf : Fr (fun _ => False) w w') : BoxRow w' v := by
  obtain ⟨q, cap, hv, hc⟩ := h
  exact ⟨q, cap, hv, fun t ht => hf.cell_ (hc t ht) (fun x => x)⟩
theorem addr_at (b j : Nat) : (⟨b, 0, none⟩ : Addr).add j = ⟨b, j, none⟩ := by unfold Addr.add; split <;> simp_all
theorem BoxRow.of {w : World} {B : Nat} {v : Value} (h : w.ownsRow B 3 1 v 256 (boxV 256)) : BoxRow w v := by
  obtain ⟨g, cap, rfl⟩ := own_slice h (by decide)
  refine ⟨g, cap, rfl, fun t ht => ?_⟩
  have hc := h.cells (g := g) rfl t (.int .i64 (box t : Nat)) (by
    simp only [boxV, List.getElem?_map, List.getElem?_range ht, Option.map_some])
  rwa [addr_at] at hc

set_option maxHeartbeats 8000000 in
set_option maxRecDepth 100000 in
theorem boxes_is (w : World) : Calls Try.prog 6 #[] w fun e w' => ∃ v, e = .returned v ∧ BoxRow w' v ∧ Fr (fun _ => False) w w' := by
  go_enter Try.func6, Try.ntmps6
  go_wp2
  go_loopw [1, 2, 3, 4, 5, 6] (fun v1 v2 _ _ _ _ wr => ∃ x : Nat, x ≤ 256 ∧ v2 = .int .i64 (x : Int) ∧ Hid (Fr (fun _ => False) w wr) ∧ Hid (wr.ownsRow w.heap.size 3 1 v1 x (boxV x))) (fun _ v2 _ _ _ _ _ => 256 - (intOf v2).toNat)
  case atStart => exact ⟨0, by omega, rfl, Fr.refl _ _, ⟨rfl, .inl ⟨rfl, rfl⟩⟩⟩
  case round =>
    obtain ⟨x, hx, rfl, KF, KR⟩ := hrel
    by_cases hlt : x < 256
    · have hxI : (x : Int) < 256 := by omega
      have hli := last_inv x hlt
      have hil : inv x < 256 := invN_lt x 254
      have hbx : box x = rbN (inv x) 4 := (rb_box (inv x) hil).symm
      have hnext := boxV_next x
      rw [hbx] at hnext
      have Hli := Lib.hid hli
      have Hil := Lib.hid hil
      have Hnext := Lib.hid hnext
      have Hxl := Lib.hid hlt
      clear hli hil hbx hnext
      go_upto_block 2 with fail
      go_cut [3, 4] (fun v3 _ wx => v3 = .int .i64 (inv x : Nat) ∧ wx = wr)
      case first =>
        go_wp2
        go_loop [3, 4] (fun v3 v4 => ∃ k : Nat, 1 ≤ k ∧ k ≤ 256 ∧ v4 = .int .i64 (k : Int) ∧ v3 = .int .i64 (lastN x (k - 1) : Nat)) (fun _ v4 => 256 - (intOf v4).toNat)
        case atStart => exact ⟨1, by omega, by omega, rfl, rfl⟩
        case round =>
          obtain ⟨k, hk1, hk2, rfl, rfl⟩ := hrel
          by_cases hlk : k < 256
          · have hkI : (k : Int) < 256 := by omega
            have hp := rproduct_is x k hlt hlk
            have hnx : lastN x (k + 1 - 1) = if mul x k = 1 then k else lastN x (k - 1) := by
              obtain ⟨k', rfl⟩ : ∃ k', k = k' + 1 := ⟨k - 1, by omega⟩
              rfl
            generalize mul x k = m at *
            generalize lastN x (k - 1) = y at *
            have HP := Lib.hid hp
            have Hnx := Lib.hid hnx
            clear hp hnx
            by_cases hm : m = 1
            · have hmI : (m : Int) = 1 := by omega
              go_wp2_with (go_at_call 14; refine (HP.out _).mono ?_; rintro e w' ⟨rfl, rfl⟩)
              go_round
              case rel => exact ⟨k + 1, by omega, by omega, by go_num, by rw [Hnx.out, if_pos hm]⟩
              case measure => simp [intOf]; omega
            · have hmI : ((m : Int) == 1) = false := by
                have : ¬ ((m : Int) = 1) := by omega
                simp [this]
              go_wp2_with (go_at_call 14; refine (HP.out _).mono ?_; rintro e w' ⟨rfl, rfl⟩)
              go_round
              case rel => exact ⟨k + 1, by omega, by omega, by go_num, by rw [Hnx.out, if_neg hm]⟩
              case measure => simp [intOf]; omega
          · obtain rfl : k = 256 := by omega
            have e : lastN x (256 - 1) = inv x := Hli.out
            rw [e]
            clear hlk e
            go_wp2
            go_meet
            exact ⟨rfl, rfl⟩
      case rest =>
        obtain ⟨rfl, rfl⟩ := hcut
        generalize inv x = y at *
        have hz0 : Go.bits .xor .i64 (y : Int) 99 = ((y ^^^ 99 : Nat) : Int) := xorI y 99 (by have := Hil.out; omega) (by decide)
        have hz0' : y ^^^ 99 = rbN y 0 := rfl
        rw [hz0'] at hz0
        have Hz0 := Lib.hid hz0
        clear hz0 hz0'
        go_upto_block 4 with fail
        rw [Hz0.out]
        go_cut [3, 5, 6] (fun _ v5 _ wx => v5 = .int .i64 (rbN y 4 : Nat) ∧ wx = wc)
        case first =>
          go_wp2
          go_loop [3, 5, 6] (fun v3 v5 v6 => ∃ n : Nat, n ≤ 4 ∧ v3 = .int .i64 (rotN y n : Nat) ∧ v5 = .int .i64 (rbN y n : Nat) ∧ v6 = .int .i64 (n : Int)) (fun _ _ v6 => 4 - (intOf v6).toNat)
          case atStart => exact ⟨0, by omega, rfl, rfl, rfl⟩
          case round =>
            obtain ⟨n, hn, rfl, rfl, rfl⟩ := hrel
            by_cases hln : n < 4
            · have hnI : (n : Int) < 4 := by omega
              have hrl := rotN_lt y n Hil.out
              have hrl2 := rotN_lt y (n + 1) Hil.out
              have hbl := rbN_lt y n Hil.out
              have hz := xorI (rbN y n) (rotN y (n + 1)) (by omega) (by omega)
              have h1 : rbN y n ^^^ rotN y (n + 1) = rbN y (n + 1) := rfl
              have h2 : (rotN y n : Int) * 2 % 256 + (rotN y n : Int) / 128 = (rotN y (n + 1) : Nat) := by simp only [rotN]; omega
              rw [h1] at hz
              have Hz := Lib.hid hz
              clear hz h1
              obtain ⟨r2, hr2⟩ : ∃ r2, rotN y (n + 1) = r2 := ⟨_, rfl⟩
              obtain ⟨s2, hs2⟩ : ∃ s2, rbN y (n + 1) = s2 := ⟨_, rfl⟩
              rw [hr2] at h2 Hz
              rw [hs2] at Hz
              have Hr2 := Lib.hid hr2
              have Hs2 := Lib.hid hs2
              clear hr2 hs2 hrl2
              generalize rotN y n = r at *
              generalize rbN y n = s at *
              go_wp2
              (try rw [h2])
              (try rw [Hz.out])
              go_round
              case rel => exact ⟨n + 1, by omega, by first | rw [Hr2.out] | (rw [Hr2.out]; exact congrArg _ h2), by first | rw [Hs2.out] | (rw [Hs2.out]; exact congrArg _ Hz.out), by go_num⟩
              case measure => simp [intOf]; omega
            · obtain rfl : n = 4 := by omega
              clear hln hn
              go_wp2
              go_meet
              exact ⟨rfl, rfl⟩
        case rest =>
          obtain ⟨rfl, rfl⟩ := hcut
          generalize rbN y 4 = z at *
          obtain ⟨i0, hi0', hz0, hz1, hz2⟩ := info_parts infoI
          have Hi := Lib.hid hi0'
          have Hz0 := Lib.hid hz0
          have Hz1 := Lib.hid hz1
          have Hz2 := Lib.hid hz2
          clear hi0' hz0 hz1 hz2
          obtain ⟨ad, cap, hv⟩ := own_any KR.out
          subst hv
          go_wp2_with (at_builtin; refine wpList_append_my _ rfl _ _ 24 rfl w.heap.size 3 i0 (.int .i64 0) 1 8 Try.underlying24 Hi.out Hz0.out Hz1.out Hz2.out rfl (by decide) (.slice ad x cap) x _ (by rfl) (KR.out.alloc _) ⟨_, 0, none⟩ 1 1 [.int .i64 (z : Int)] (by rfl) (by rfl) (World.news_of_block (cs := #[.int .i64 (z : Int)]) (t := 3) (fr := (0, 0)) (heap_alloc_new _ _)) (by simp [Value.oneCell']) (by omega) (by unfold maxLen; omega) (by omega) (by have := KF.out.size; simp; omega) _ rfl ?_; intro g cap2 w2 hown hgrow hat hlt2 hsame; have IB := Lib.hid hown; have IF : Hid (Fr (fun _ => False) w w2) := Lib.hid ((KF.out.alloc _).grown hgrow (fun k hk => .inr (own_base KR.out hk))); clear hown hgrow hat hlt2 hsame)
          go_roundw
          case rel => exact ⟨x + 1, by omega, by go_num, IF, by rw [Hnext.out]; exact IB⟩
          case measure => simp [intOf]; omega
    · obtain rfl : x = 256 := by omega
      clear hlt hx
      go_wp2
      go_ret
      exact ⟨_, rfl, BoxRow.of KR.out, KF.out⟩
end Go.Proofs.Ytmcenocmilhekaa
