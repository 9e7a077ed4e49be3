/- Walks of layer 25 (aes): a cipher of a key. -/
import Derived.Test.YtmcenocmilhekaaAe9
namespace Go.Proofs.Ytmcenocmilhekaa
set_option linter.unusedVariables false
open Go.RowKit Go.My Go.Aes

set_option maxRecDepth 100000 in
theorem new_nil (key : ByteArray) (hk : key.size ≠ 32) (w : World) : Calls Try.prog 7 #[.string key] w fun e w' => e = .returned (.pointer none) ∧ w' = w := by
  have hkI : ((key.size : Int) == 32) = false := by
    have : ¬ ((key.size : Int) = 32) := by omega
    simp [this]
  have hk2 : ¬ ((key.size : Int) = 32) := by omega
  clear hk
  go_enter Try.func7, Try.ntmps7
  go_wp2
  go_ret
  exact ⟨rfl, rfl⟩

/-- A cipher's block while its boxes are laid. -/
def CipX (w : World) (c x : Nat) : Prop := ∃ L, w.heap[c]? = some (.cells (u8s L) 41 (0, 0)) ∧ L.length = 496 ∧ ∀ y, y < x → L.getD y 0 = box y
theorem CipX.set {w : World} {c x : Nat} (h : CipX w c x) (hx : x < 256) : CipX (w.setCell ⟨c, x, none⟩ (.int .u8 (box x : Nat))) c (x + 1) := by
  obtain ⟨L, hb, hl, hL⟩ := h
  have hb2 := block_setCell hb (.int .u8 (box x : Nat)) (off := x)
  rw [u8s_set] at hb2
  refine ⟨_, hb2, by rw [List.length_set, hl], fun y hy => ?_⟩
  by_cases e : y = x
  · subst e
    simp [List.getD, hl, show y < 496 by omega]
  · rw [← hL y (by omega)]
    simp only [List.getD]
    rw [List.getElem?_set_ne (by omega)]
theorem CipX.drew {w : World} {c x : Nat} (h : CipX w c x) : CipX w.drew c x := h
theorem CipX.whole {w : World} {c : Nat} (h : CipX w c 256) : Cip w c [] := by
  obtain ⟨L, hb, hl, hL⟩ := h
  exact ⟨L, hb, hl, hL, fun i hi => absurd hi (by simp), by simp⟩
theorem CipX.cell {w : World} {c x : Nat} (h : CipX w c x) (y : Nat) (hy : y < 496) : ∃ v : Nat, w.cell? ⟨c, y, none⟩ = some (.int .u8 (v : Int)) := by
  obtain ⟨L, hb, hl, hL⟩ := h
  exact ⟨_, by rw [cell_of hb, u8s_get L _ (by omega)]⟩
theorem CipX.free {w : World} {c x : Nat} (h : CipX w c x) (y : Nat) : w.frozen? ⟨c, y, none⟩ = false := by
  obtain ⟨L, hb, hl, hL⟩ := h
  exact free_of hb y

set_option maxRecDepth 100000 in
theorem infoC : (Try.prog.info? 41).map (fun i => i.zero) = some (some (.agg (u8s (List.replicate 496 0)))) := by kernel_rfl
theorem zeroC (w : World) : (zeroValue 41).run Try.prog w = .ok (.agg (u8s (List.replicate 496 0))) w := by
  have h := infoC
  obtain ⟨zs, hzs⟩ : ∃ zs, u8s (List.replicate 496 0) = zs := ⟨_, rfl⟩
  rw [hzs] at h ⊢
  clear hzs
  cases hi : Try.prog.info? 41 with
  | none => rw [hi] at h; cases h
  | some i =>
    rw [hi] at h
    have hz : i.zero = some (.agg zs) := by simpa using h
    simp [zeroValue, typeInfo, hi, hz]

set_option maxHeartbeats 4000000 in
set_option maxRecDepth 100000 in
theorem new_is (key : ByteArray) (hk : key.size = 32) (w : World) :
    Calls Try.prog 7 #[.string key] w fun e w' => ∃ c, e = .returned (.pointer (some ⟨c, 0, none⟩)) ∧ Cip w' c (keyN (keyB key) 52) ∧ Fr (fun _ => False) w w' := by
  have hkI : (key.size : Int) = 32 := by omega
  have Hk := Lib.hid hk
  clear hk
  obtain ⟨zl, hzl⟩ : ∃ l : List Nat, List.replicate 496 0 = l := ⟨_, rfl⟩
  have hzn : zl.length = 496 := by rw [← hzl, List.length_replicate]
  have hzv := zeroC
  rw [hzl] at hzv
  obtain ⟨zs, hzs⟩ : ∃ zs, u8s zl = zs := ⟨_, rfl⟩
  have hzz : zs.size = 496 := by rw [← hzs, u8s_size, hzn]
  have hne : ¬ zs = #[] := fun e => by rw [e] at hzz; simp at hzz
  rw [hzs] at hzv
  have Hzs := Lib.hid hzs
  have Hzn := Lib.hid hzn
  clear hzl hzn hzs
  go_enter Try.func7, Try.ntmps7
  go_upto_block 0 with fail
  have hb : (w.alloc (.cells zs 41)).heap[w.heap.size]? = some (.cells (u8s zl) 41 (0, 0)) := by rw [Hzs.out]; exact heap_alloc_new w _
  have hf : Fr (fun _ => False) w (w.alloc (.cells zs 41)) := (Fr.refl _ w).alloc _
  obtain ⟨c, hc⟩ : ∃ c, w.heap.size = c := ⟨_, rfl⟩
  obtain ⟨V, hV⟩ : ∃ V, w.alloc (.cells zs 41) = V := ⟨_, rfl⟩
  rw [hV, hc] at hb
  rw [hV] at hf
  rw [hV, hc]
  have HX : Hid (CipX V c 0) := Lib.hid ⟨zl, hb, Hzn.out, fun y hy => absurd hy (Nat.not_lt_zero _)⟩
  have HF := Lib.hid hf
  have Hcw : Hid (w.heap.size = c) := hc
  clear hV hc hb hf hzv hzz hne
  go_cut [4, 10] (fun _ _ wx => Hid (Fr (fun _ => False) w wx) ∧ Hid (CipX wx c 256))
  case first =>
    go_wp2
    go_loopw [4, 10] (fun _ v10 wr => ∃ x : Nat, x ≤ 256 ∧ v10 = .int .i64 (x : Int) ∧ Hid (Fr (fun _ => False) w wr) ∧ Hid (CipX wr c x)) (fun _ v10 _ => 256 - (intOf v10).toNat)
    case atStart => exact ⟨0, by omega, rfl, HF, HX⟩
    case round =>
      obtain ⟨x, hx, rfl, KF, KX⟩ := hrel
      clear HF HX
      by_cases hlt : x < 256
      · have hlI : (x : Int) < 256 := by omega
        have hx0 : (0 : Int) ≤ (x : Int) := by omega
        obtain ⟨v0, c0⟩ := KX.out.cell x (by omega)
        have f0 := KX.out.free x
        have hbx := fun W => box_is x hlt W
        have hset := KX.out.set hlt
        obtain ⟨y, hy⟩ : ∃ y, box x = y := ⟨_, rfl⟩
        rw [hy] at hbx hset
        have hfr := KF.out.setCell ⟨c, x, none⟩ (.int .u8 (y : Int)) (.inr (show w.heap.size ≤ c by have := Hcw.out; omega))
        have HB := Lib.hid hbx
        have MX := Lib.hid hset
        have MF := Lib.hid hfr
        have hm8 : IntKind.u8.wrap (x : Int) = (x : Int) := by rw [IntKind.wrap_u8]; omega
        have hm9 : (x : Int) % 256 = (x : Int) := by omega
        clear hbx hset hfr hy
        go_upto_region 7 with fail
        go_region_with (go_at_call 15; refine (HB.out _).mono ?_; rintro e w' ⟨rfl, rfl⟩)
        all_goals go_wp2
        all_goals go_roundw
        all_goals first
          | exact ⟨x + 1, by omega, by go_num, MF.out.drew, MX.out.drew⟩
          | (simp [intOf]; omega)
      · obtain rfl : x = 256 := by omega
        clear hlt hx
        go_wp2
        go_meet
        exact ⟨KF, KX⟩
  case rest =>
    obtain ⟨KF, KX⟩ := hcut
    clear HF HX
    have hsp := spread_is key Hk.out c wc KX.out.whole
    obtain ⟨KN, hKN⟩ : ∃ KN, keyN (keyB key) 52 = KN := ⟨_, rfl⟩
    rw [hKN] at hsp
    have HS := Lib.hid hsp
    have HKN := Lib.hid hKN
    clear hsp hKN
    go_wp2_with (go_at_call 16; (refine HS.out.mono ?_; rintro e w2 ⟨v, rfl, h1, h2⟩; have F2 := Lib.hid (KF.out.trans h1 (fun k hk => .inr (show w.heap.size ≤ k by have := Hcw.out; omega))); have C2 := Lib.hid h2; clear h1 h2))
    go_ret
    exact ⟨c, rfl, by rw [HKN.out]; exact C2.out, F2.out⟩
end Go.Proofs.Ytmcenocmilhekaa
