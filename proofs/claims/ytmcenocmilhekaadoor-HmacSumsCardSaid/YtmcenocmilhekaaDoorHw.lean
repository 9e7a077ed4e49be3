/- HmacSums: what the law asks first; the walk of the law. -/
import Derived.Test.YtmcenocmilhekaaDoorHs
namespace Go.Proofs.YtmcenocmilhekaaDoor
set_option linter.unusedVariables false
open Go.RowKit Go.My Go.Sha

theorem fox4 : (hmacS ⟨#[107, 101, 121]⟩ ⟨#[84, 104, 101, 32, 113, 117, 105, 99, 107, 32, 98, 114, 111, 119, 110, 32, 102, 111, 120, 32, 106, 117, 109, 112, 115, 32, 111, 118, 101, 114, 32, 116, 104, 101, 32, 108, 97, 122, 121, 32, 100, 111, 103]⟩).extract 0 4 = ⟨#[247, 188, 131, 244]⟩ := by decide +kernel
theorem hmacS_size2 (k s : ByteArray) : (hmacS k s).size = 32 := sumS_size _
theorem dec_beq (a b : ByteArray) : decide (a = b) = (a.toList == b.toList) := by
  rw [ByteArray.toList_eq, ByteArray.toList_eq]
  by_cases h : a = b
  · subst h; simp
  · rw [decide_eq_false h]
    symm
    refine beq_eq_false_iff_ne.2 (fun e => h ?_)
    cases a with
    | mk x =>
      cases b with
      | mk y => exact congrArg ByteArray.mk (Array.toList_inj.1 e)

set_option maxHeartbeats 2000000 in
set_option maxRecDepth 100000 in
theorem speaks24 (w : World) (hT : KTab w) : Calls Tryd.prog 11 #[] w fun e w' => e = .returned (.bool true) ∧ Fr (fun _ => False) w w' := by
  have h1 := fun W (hW : KTab W) => hsum_is ⟨#[107, 101, 121]⟩ ⟨#[84, 104, 101, 32, 113, 117, 105, 99, 107, 32, 98, 114, 111, 119, 110, 32, 102, 111, 120, 32, 106, 117, 109, 112, 115, 32, 111, 118, 101, 114, 32, 116, 104, 101, 32, 108, 97, 122, 121, 32, 100, 111, 103]⟩ (by decide) (by decide) W hW
  have e1 := fox4
  have s1 := hmacS_size2 ⟨#[107, 101, 121]⟩ ⟨#[84, 104, 101, 32, 113, 117, 105, 99, 107, 32, 98, 114, 111, 119, 110, 32, 102, 111, 120, 32, 106, 117, 109, 112, 115, 32, 111, 118, 101, 114, 32, 116, 104, 101, 32, 108, 97, 122, 121, 32, 100, 111, 103]⟩
  have h2 := fun W => same_is ⟨#[97]⟩ ⟨#[97]⟩ (by decide) (by decide) W
  have h3 := fun W => same_is ⟨#[97]⟩ ⟨#[98]⟩ (by decide) (by decide) W
  rw [show decide ((⟨#[97]⟩ : ByteArray) = ⟨#[97]⟩) = true by decide] at h2
  rw [show decide ((⟨#[97]⟩ : ByteArray) = ⟨#[98]⟩) = false by decide] at h3
  generalize hmacS ⟨#[107, 101, 121]⟩ ⟨#[84, 104, 101, 32, 113, 117, 105, 99, 107, 32, 98, 114, 111, 119, 110, 32, 102, 111, 120, 32, 106, 117, 109, 112, 115, 32, 111, 118, 101, 114, 32, 116, 104, 101, 32, 108, 97, 122, 121, 32, 100, 111, 103]⟩ = a at *
  have H1 := Lib.hid h1
  have H2 := Lib.hid h2
  have H3 := Lib.hid h3
  have HT := Lib.hid hT
  clear h1 h2 h3 hT
  go_enter Tryd.func11, Tryd.ntmps11
  go_wp2_with (first
    | (go_at_call 12; refine (H1.out _ HT.out).mono ?_; rintro e w1 ⟨rfl, h⟩; have F1 := Lib.hid h; clear h)
    | (go_at_call 14; first
        | ((with_reducible show Calls _ _ #[_, Value.string ⟨#[97]⟩] _ _); refine (H2.out _).mono ?_; rintro e w2 ⟨rfl, h⟩; have F2 := Lib.hid h; clear h)
        | ((with_reducible show Calls _ _ #[_, Value.string ⟨#[98]⟩] _ _); refine (H3.out _).mono ?_; rintro e w3 ⟨rfl, h⟩; have F3 := Lib.hid h; clear h)))
  go_ret
  exact ⟨rfl, (F1.out.trans F2.out (fun _ h => .inl h)).trans F3.out (fun _ h => .inl h)⟩

set_option maxHeartbeats 4000000 in
set_option maxRecDepth 100000 in
theorem hmacSums_walk (key s : ByteArray) (same : Bool) (w : World) (hT : KTab w) :
    Calls Tryd.prog 4 #[.string key, .string s, .bool same] w fun e w' => e = .returned (.bool true) ∧ Fr (fun _ => False) w w' := by
  have HT := Lib.hid hT
  clear hT
  go_enter Tryd.func4, Tryd.ntmps4
  go_upto_region 3 with (go_at_call 11; refine (speaks24 _ HT.out).mono ?_; rintro e w1 ⟨rfl, h⟩; have F1 := Lib.hid h; clear h)
  go_cut [0, 1] (fun v0 v1 w' => ∃ t u : ByteArray, t.size ≤ 150 ∧ u.size ≤ 150 ∧ v0 = .string t ∧ v1 = .string u ∧ Hid (Fr (fun _ => False) w w'))
  case first =>
    by_cases h3 : key.size ≤ 150 <;> by_cases h4 : s.size ≤ 150
    all_goals
      go_region
      go_wp2
      go_meet
      refine ⟨_, _, ?_, ?_, rfl, rfl, F1.out.drew⟩ <;> (first | omega | (rw [ByteArray.size_extract]; split <;> omega) | (rw [ByteArray.size_extract]; omega))
  case rest =>
    obtain ⟨t, u, ht, hu, rfl, rfl, KF⟩ := hcut
    clear F1
    have h1 := fun W (hW : KTab W) => hsum_is t u (by omega) (by omega) W hW
    have h2 := fun vv W (hW : KRow W vv) => rhsum_is t u (by omega) (by omega) vv W hW
    have h3 := fun W => same_is u t (by omega) (by omega) W
    have h4 := fun W => same_is u u (by omega) (by omega) W
    rw [dec_beq] at h3
    rw [decide_eq_true (rfl : u = u)] at h4
    generalize hmacS t u = R at *
    obtain ⟨B, hB⟩ : ∃ B, (u.toList == t.toList) = B := ⟨_, rfl⟩
    rw [hB] at h3
    have H1 := Lib.hid h1
    have H2 := Lib.hid h2
    have H3 := Lib.hid h3
    have H4 := Lib.hid h4
    clear h1 h2 h3 h4
    cases same
    all_goals
      go_wp2_with (first
        | (go_at_call 12; refine (H1.out _ (HT.out.keep KF.out)).mono ?_; rintro e w2 ⟨rfl, h⟩; have F2 : Hid (Fr (fun _ => False) w w2) := Lib.hid (KF.out.trans h (fun _ h => .inl h)); clear h)
        | (go_at_call 10; refine (constants_is _).mono ?_; rintro e w3 ⟨vk, rfl, hK, h⟩; have F3 : Hid (Fr (fun _ => False) w w3) := Lib.hid (F2.out.trans h (fun _ h => .inl h)); have HK := Lib.hid hK; clear h hK)
        | (go_at_call 13; refine (H2.out _ _ HK.out).mono ?_; rintro e w4 ⟨rfl, h⟩; have F4 : Hid (Fr (fun _ => False) w w4) := Lib.hid (F3.out.trans h (fun _ h => .inl h)); clear h)
        | (go_at_call 14; first
            | ((with_reducible show Calls _ _ #[Value.string u, Value.string t] _ _); refine (H3.out _).mono ?_; rintro e w5 ⟨rfl, h⟩; have F5 : Hid (Fr (fun _ => False) w w5) := Lib.hid (F4.out.trans h (fun _ h => .inl h)); clear h)
            | ((with_reducible show Calls _ _ #[Value.string u, Value.string u] _ _); refine (H4.out _).mono ?_; rintro e w5 ⟨rfl, h⟩; have F5 : Hid (Fr (fun _ => False) w w5) := Lib.hid (F4.out.trans h (fun _ h => .inl h)); clear h)))
      go_ret
      exact ⟨by first | rfl | (simp; done) | (cases B <;> rfl) | (cases B <;> simp), F5.out⟩
end Go.Proofs.YtmcenocmilhekaaDoor
