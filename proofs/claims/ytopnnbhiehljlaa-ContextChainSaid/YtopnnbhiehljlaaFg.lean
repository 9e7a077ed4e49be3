/- Layer 5 (freq): a table's signs and counts; any sign is put. -/
import Derived.Test.YtopnnbhiehljlaaFq1
import Derived.Test.YtopnnbhiehljlaaApq
import Derived.Test.YtopnnbhiehljlaaFa
namespace Go.Proofs.Ytopnnbhiehljlaa
set_option linter.unusedVariables false
open Go.RowKit Go.My
attribute [local go_sem ↓] Go.wp_at_zero Go.wp_at_succ

theorem signs_info3 : (Try.prog.info? 3).map (fun i => (i.zero, i.size, i.bytes)) = some (some (.int .i64 0), 1, 8) := by kernel_rfl

set_option maxHeartbeats 4000000 in
set_option maxRecDepth 10000 in
theorem tab_signs (p : Nat) (t : Fq.T) (v1 v2 : Value) (w : World) (h : TabAt w p t v1 v2) (hOk : t.Ok) :
    Calls Try.prog 20 #[.pointer (some ⟨p, 0, none⟩)] w fun r w' => ∃ A1 c1 A2 c2, r = .returned (.tuple #[.slice A1 t.s.length c1, .slice A2 t.s.length c2]) ∧ w'.ownsRow 0 5 1 (.slice A1 t.s.length c1) t.s.length (bytesV t.s) ∧ w'.ownsRow 0 3 1 (.slice A2 t.s.length c2) t.s.length (intsV t.c) ∧ Fr (fun _ => False) w w' ∧
      (∀ k, (Value.slice A1 t.s.length c1).ownBlock = some k → w.heap.size ≤ k) ∧ (∀ k, (Value.slice A2 t.s.length c2).ownBlock = some k → w.heap.size ≤ k) := by
  obtain ⟨i0, hi, hz0, hz1, hz2⟩ := info_parts info5
  obtain ⟨i3, ki, kz0, kz1, kz2⟩ := info_parts signs_info3
  obtain ⟨c0, c1, f0, f1⟩ := h.cells
  have hcl := hOk.len
  have hsz := hOk.size
  obtain ⟨a1, cp1, rfl, _⟩ := own_val h.s
  obtain ⟨a2, cp2, rfl, _⟩ := own_val h.c
  have hos := h.s
  have hoc := h.c
  obtain ⟨L, hL⟩ : ∃ L, t.s.length = L := ⟨_, rfl⟩
  rw [hcl, hL] at c1 hoc
  rw [hL] at c0 hos
  rw [hL]
  have hpl : p < w.heap.size := lt_of_block h.blk
  have h1 : 0 + L ≤ maxLen := by unfold maxLen; omega
  have h2 : (0 + L) * 1 ≤ 140737488355328 := by omega
  have h3 : (0 + L) * 8 ≤ 140737488355328 := by omega
  have hl1 : (bytesV t.s).length = L * 1 := by rw [bytesV_length, hL]; omega
  have hl2 : (intsV t.c).length = L * 1 := by rw [intsV_len, hcl, hL]; omega
  have Hi := Lib.hid hi
  have Hz0 := Lib.hid hz0
  have Hz1 := Lib.hid hz1
  have Hz2 := Lib.hid hz2
  have Ki := Lib.hid ki
  have Kz0 := Lib.hid kz0
  have Kz1 := Lib.hid kz1
  have Kz2 := Lib.hid kz2
  have Hos := Lib.hid hos
  have Hoc := Lib.hid hoc
  have H1 := Lib.hid h1
  have H2 := Lib.hid h2
  have H3 := Lib.hid h3
  have Hl1 := Lib.hid hl1
  have Hl2 := Lib.hid hl2
  clear hi hz0 hz1 hz2 ki kz0 kz1 kz2 hos hoc h1 h2 h3 hl1 hl2 hL hcl hsz h hOk f0 f1
  go_enter Try.func20, Try.ntmps20
  go_upto_region 3 with fail
  go_region_held3 (fun w' => w'.cell? ⟨p, 0, none⟩ = some (.slice a1 L cp1) ∧ w'.cell? ⟨p, 1, none⟩ = some (.slice a2 L cp2)) (go_keep) (first
    | ((refine step_append_all (o := ⟨some 10, _, _, _, _, _⟩) _ (by rfl) _ _ 39 (by rfl) 0 5 i0 (.int .u8 0) 1 1 Try.underlying39 Hi.out Hz0.out Hz1.out Hz2.out rfl (by decide) (.slice none 0 0) 0 [] (by rfl) ⟨rfl, .inl ⟨rfl, rfl⟩⟩ a1 L cp1 (bytesV t.s) (by rfl) Hl1.out (own_news (own_keep (S := fun _ => False) Hos.out (Fr.refl _ _).drew (fun _ _ h => h))) (by simp [bytesV, Value.oneCell']) H1.out H2.out (Nat.zero_le _) ?_; intro A1 q1 w1 hap; have hf1 : Fr (fun _ => False) w w1 := (Fr.refl _ _).drew.trans hap.fr (fun k hk => by cases hk); have HF1 := Lib.hid hf1; have Hap := Lib.hid hap; have d0 := hf1.cell_ c0 (fun h => h); have d1 := hf1.cell_ c1 (fun h => h); clear hap hf1))
    | ((refine step_append_all (o := ⟨some 15, _, _, _, _, _⟩) _ (by rfl) _ _ 40 (by rfl) 0 3 i3 (.int .i64 0) 1 8 Try.underlying40 Ki.out Kz0.out Kz1.out Kz2.out rfl (by decide) (.slice none 0 0) 0 [] (by rfl) ⟨rfl, .inl ⟨rfl, rfl⟩⟩ a2 L cp2 (intsV t.c) (by rfl) Hl2.out (own_news (own_keep (S := fun _ => False) Hoc.out HF1.out (fun _ _ h => h))) (by simp [intsV, Value.oneCell']) H1.out H3.out (Nat.zero_le _) ?_; intro A2 q2 w2 hap2; have hf2 : Fr (fun _ => False) w1 w2 := hap2.fr.mono (fun k hk => by cases hk); have HF2 := Lib.hid (HF1.out.trans hf2 (fun _ h => h.elim)); have hf2b := Lib.hid hf2; have Hap2 := Lib.hid hap2; have e0 := hf2.cell_ d0 (fun h => h); have e1 := hf2.cell_ d1 (fun h => h); clear hap2 hf2)))
  all_goals go_wp2
  all_goals go_ret2
  all_goals
    have g1 := Hap.out.own
    have g2 := Hap2.out.own
    simp only [Nat.zero_add, List.nil_append] at g1 g2
    refine ⟨A1, q1, A2, q2, rfl, own_keep g1 hf2b.out (fun _ _ h => h), g2, HF2.out, fun k hk => ?_, fun k hk => ?_⟩
    · have h0 := Hap.out.foot k (by rw [Nat.zero_add]; exact hk)
      rcases h0 with h0 | h0
      · cases h0
      · exact h0
    · have h0 := Hap2.out.foot k (by rw [Nat.zero_add]; exact hk)
      rcases h0 with h0 | h0
      · cases h0
      · exact Nat.le_trans HF1.out.size h0
theorem tab_signs_nil (w : World) : Calls Try.prog 20 #[.pointer none] w fun r w' => r = .returned (.tuple #[.slice none 0 0, .slice none 0 0]) ∧ w = w' := by
  go_enter Try.func20, Try.ntmps20
  go_wp2
  go_ret2
  exact ⟨rfl, rfl⟩

set_option maxHeartbeats 4000000 in
set_option maxRecDepth 10000 in
theorem put_any_sign (pe : Nat) (v : Value) (ops : List Rc.Op) (nv : Value) (f : Nat → Bool) (m : Nat) (x : UInt8) (w : World) (he : EncO w pe v ops) (hops : ops.length ≤ 90000000) (hn : NotAt w nv f m) (hm : m + Fq.below f 256 = 256) (hx : f x.toNat = false) :
    Calls Try.prog 56 #[.pointer (some ⟨pe, 0, none⟩), .int .u8 (x.toNat : Int), nv] w fun r w' => r = .returned (.tuple #[]) ∧ ∃ v', EncO w' pe v' (ops ++ [Fq.anyOp x f]) ∧ Step w w' (encFoot pe v) (encFoot pe v') := by
  have hfine := Fq.anyOp_fine x f hx
  have hlen := set_len nv f m w hn
  have hhas := fun y (hy : y < 256) => set_has nv f m y w hn hy
  unfold Fq.anyOp at hfine ⊢
  have hpart := part_ops pe v ops (Fq.below f x.toNat) 1 (Fq.below f 256) w he (by omega) hfine
  obtain ⟨T, hT⟩ : ∃ T, Fq.below f 256 = T := ⟨_, rfl⟩
  obtain ⟨X, hX⟩ : ∃ X, x.toNat = X := ⟨_, rfl⟩
  rw [hT] at hpart hm ⊢
  rw [hX] at hpart ⊢
  obtain ⟨U, hU⟩ : ∃ U, Fq.below f X = U := ⟨_, rfl⟩
  rw [hU] at hpart ⊢
  have hXb : X < 256 := by rw [← hX]; exact x.toNat_lt
  have hXi : (X : Int) < 256 := by omega
  have hmt : (256 : Int) - (m : Int) = (T : Int) := by omega
  have hmi : (m : Int) ≤ 256 := by omega
  have hTi : (T : Int) ≤ 256 := by omega
  have hble := Fq.below_le f
  have Hpart := Lib.hid hpart
  have Hlen := Lib.hid hlen
  have Hhas := Lib.hid hhas
  have HU := Lib.hid hU
  have Hble := Lib.hid hble
  clear hpart hlen hhas hT hX hU hm hfine hx he hops hn hble
  go_enter Try.func56, Try.ntmps56
  go_wp2
  go_loop [6, 10] (fun v6 v10 => ∃ i a : Nat, i ≤ X ∧ v10 = .int .i64 (i : Int) ∧ v6 = .int .u32 (a : Int) ∧ a ≤ i ∧ Hid (Fq.below f i = a)) (fun _ v10 => X - (intOf v10).toNat)
  case atStart => exact ⟨0, 0, Nat.zero_le _, rfl, rfl, Nat.le_refl _, rfl⟩
  case round =>
    obtain ⟨i, a, hi, rfl, rfl, hai, HB⟩ := hrel
    have haii : (a : Int) ≤ 256 := by omega
    by_cases hlt : i < X
    · have hii : (i : Int) < (X : Int) := by omega
      have hi256 : (i : Int) < 256 := by omega
      have hi0 : (0 : Int) ≤ (i : Int) := by omega
      have hh := Hhas.out i (by omega)
      have hnx : Fq.below f (i + 1) = if f i then Fq.below f i else Fq.below f i + 1 := rfl
      rw [HB.out] at hnx
      by_cases hf : f i = true
      · rw [hf] at hh hnx
        have Hh := Lib.hid hh
        have Hnx : Hid (Fq.below f (i + 1) = a) := hnx
        clear hh hnx hf
        go_wp2_with (go_at_call 65; refine Hh.out.mono ?_; rintro r5 w5 ⟨rfl, rfl⟩)
        go_round
        case rel => exact ⟨i + 1, a, by omega, by go_num, rfl, by omega, Hnx⟩
        case measure => simp [intOf]; omega
      · have hff : f i = false := by simpa using hf
        rw [hff] at hh hnx
        have Hh := Lib.hid hh
        have Hnx : Hid (Fq.below f (i + 1) = a + 1) := hnx
        clear hh hnx hf hff
        go_wp2_with (go_at_call 65; refine Hh.out.mono ?_; rintro r5 w5 ⟨rfl, rfl⟩)
        go_round
        case rel => exact ⟨i + 1, a + 1, by omega, by go_num, by go_num, by omega, Hnx⟩
        case measure => simp [intOf]; omega
    · obtain rfl : i = X := by omega
      obtain rfl : a = U := HB.out.symm.trans HU.out
      go_wp2_with (first
        | (go_at_call 62; refine Hlen.out.mono ?_; rintro r5 w5 ⟨rfl, rfl⟩)
        | (go_at_call 66; refine Hpart.out.mono ?_; rintro r5 w5 ⟨rfl, v5, h1, h2⟩; have H1 := Lib.hid h1; have H2 := Lib.hid h2; clear h1 h2))
      go_end0
      exact ⟨rfl, v5, H1.out, H2.out⟩
end Go.Proofs.Ytopnnbhiehljlaa
