/- Walks of layers 24 and 26: the sum under a key; the keys of a password. -/
import Derived.Test.YtmcenocmilhekaaDoorHm
import Derived.Test.YtmcenocmilhekaaDoorKTb
namespace Go.Proofs.YtmcenocmilhekaaDoor
set_option linter.unusedVariables false
open Go.RowKit Go.My Go.Sha

def shortKey (key : ByteArray) : ByteArray := if 64 < key.size then sumS key else key
def hmacS (key s : ByteArray) : ByteArray := sumS ((⟨(turnL (shortKey key).data.toList 92 64).toArray⟩ : ByteArray) ++ sumS ((⟨(turnL (shortKey key).data.toList 54 64).toArray⟩ : ByteArray) ++ s))
theorem sumS_size (s : ByteArray) : (sumS s).size = 32 := by
  have : (sumS s).size = (Sha.bytes (sumL s.data.toList)).length := rfl
  rw [this, bytes_length]
theorem turnB_size (k : List UInt8) (b : UInt8) : (⟨(turnL k b 64).toArray⟩ : ByteArray).size = 64 := by rw [mk_size, turnL_length]
theorem short_size (key : ByteArray) : (shortKey key).size ≤ 64 := by
  unfold shortKey
  split
  · rw [sumS_size]; decide
  · omega

set_option maxHeartbeats 2000000 in
set_option maxRecDepth 100000 in
theorem hsum_is (key s : ByteArray) (hk : key.size ≤ 900000) (hs : s.size ≤ 900000) (w : World) (hT : KTab w) :
    Calls Tryd.prog 12 #[.string key, .string s] w fun e w' => e = .returned (.string (hmacS key s)) ∧ Fr (fun _ => False) w w' := by
  obtain ⟨K, hK⟩ : ∃ K, shortKey key = K := ⟨_, rfl⟩
  have hKs : K.size ≤ 64 := by rw [← hK]; exact short_size key
  obtain ⟨A, hA⟩ : ∃ A : ByteArray, (⟨(turnL K.data.toList 92 64).toArray⟩ : ByteArray) = A := ⟨_, rfl⟩
  obtain ⟨B, hB⟩ : ∃ B : ByteArray, (⟨(turnL K.data.toList 54 64).toArray⟩ : ByteArray) = B := ⟨_, rfl⟩
  have hAs : A.size = 64 := by rw [← hA]; exact turnB_size _ _
  have hBs : B.size = 64 := by rw [← hB]; exact turnB_size _ _
  have h1 : ∀ W, Calls Tryd.prog 23 #[.string K, .int .u8 92] W fun e w' => e = .returned (.string A) ∧ Fr (fun _ => False) W w' := fun W => by rw [← hA]; exact hturned_is K hKs 92 W
  have h2 : ∀ W, Calls Tryd.prog 23 #[.string K, .int .u8 54] W fun e w' => e = .returned (.string B) ∧ Fr (fun _ => False) W w' := fun W => by rw [← hB]; exact hturned_is K hKs 54 W
  have hX : (B ++ s).size = 64 + s.size := by rw [ByteArray.size_append, hBs]
  obtain ⟨Y, hY⟩ : ∃ Y, sumS (B ++ s) = Y := ⟨_, rfl⟩
  have hYs : Y.size = 32 := by rw [← hY]; exact sumS_size _
  have h3 : ∀ W, KTab W → Calls Tryd.prog 8 #[.string (B ++ s)] W fun e w' => e = .returned (.string Y) ∧ Fr (fun _ => False) W w' := fun W hW => by rw [← hY]; exact sum_is _ (by omega) W hW
  have hZ : (A ++ Y).size = 96 := by rw [ByteArray.size_append, hAs, hYs]
  have h4 : ∀ W, KTab W → Calls Tryd.prog 8 #[.string (A ++ Y)] W fun e w' => e = .returned (.string (sumS (A ++ Y))) ∧ Fr (fun _ => False) W w' := fun W hW => sum_is _ (by omega) W hW
  have hres : hmacS key s = sumS (A ++ Y) := by unfold hmacS; rw [hK, hA, hB, hY]
  have hc1 : B.size + s.size ≤ 1000000000 := by omega
  have hc2 : A.size + Y.size ≤ 1000000000 := by omega
  have H1 := Lib.hid h1
  have H2 := Lib.hid h2
  have H3 := Lib.hid h3
  have H4 := Lib.hid h4
  have HK := Lib.hid hK
  have HT := Lib.hid hT
  have Hres := Lib.hid hres
  have h0 := fun W (hW : KTab W) => sum_is key (by omega) W hW
  have H0 := Lib.hid h0
  clear h1 h2 h3 h4 hX hZ hA hB hY hT hres hs hAs hBs hYs h0 hKs hK
  rw [Hres.out]
  obtain ⟨X, hX⟩ : ∃ X, B ++ s = X := ⟨_, rfl⟩
  obtain ⟨Z, hZ⟩ : ∃ Z, A ++ Y = Z := ⟨_, rfl⟩
  rw [hX] at H3
  rw [hZ] at H4 ⊢
  go_enter Tryd.func12, Tryd.ntmps12
  by_cases hlong : 64 < key.size
  · have hl : (64 : Int) < key.size := by omega
    have hKe : sumS key = K := by rw [← HK.out]; unfold shortKey; rw [if_pos hlong]
    rw [hKe] at H0
    clear hlong
    go_wp2_with (first
      | (go_at_call 8; first
          | (with_reducible show Calls _ _ #[Value.string key] _ _; refine (H0.out _ HT.out).mono ?_; rintro e w0 ⟨rfl, h⟩; have F0 := Lib.hid h; clear h)
          | (with_reducible show Calls _ _ #[Value.string X] _ _; refine (H3.out _ (((HT.out.keep F0.out).keep F1.out).keep F2.out)).mono ?_; rintro e w3 ⟨rfl, h⟩; have F3 := Lib.hid h; clear h)
          | (with_reducible show Calls _ _ #[Value.string Z] _ _; refine (H4.out _ ((((HT.out.keep F0.out).keep F1.out).keep F2.out).keep F3.out)).mono ?_; rintro e w4 ⟨rfl, h⟩; have F4 := Lib.hid h; clear h))
      | (go_at_call 23; first
          | (with_reducible show Calls _ _ #[_, Value.int .u8 92] _ _; refine (H1.out _).mono ?_; rintro e w1 ⟨rfl, h⟩; have F1 := Lib.hid h; clear h)
          | (with_reducible show Calls _ _ #[_, Value.int .u8 54] _ _; refine (H2.out _).mono ?_; rintro e w2 ⟨rfl, h⟩; have F2 := Lib.hid h; clear h))
      | (refine wpList_strcat _ _ 9 rfl rfl B s rfl rfl hc1 ?_; rw [hX])
      | (refine wpList_strcat _ _ 9 rfl rfl A Y rfl rfl hc2 ?_; rw [hZ]))
    go_ret
    exact ⟨rfl, (((F0.out.trans F1.out (fun _ h => .inl h)).trans F2.out (fun _ h => .inl h)).trans F3.out (fun _ h => .inl h)).trans F4.out (fun _ h => .inl h)⟩
  · have hl : ¬ (64 : Int) < key.size := by omega
    have hKe : key = K := by rw [← HK.out]; unfold shortKey; rw [if_neg hlong]
    subst hKe
    clear hlong H0 HK
    go_wp2_with (first
      | (go_at_call 8; first
          | (with_reducible show Calls _ _ #[Value.string X] _ _; refine (H3.out _ ((HT.out.keep F1.out).keep F2.out)).mono ?_; rintro e w3 ⟨rfl, h⟩; have F3 := Lib.hid h; clear h)
          | (with_reducible show Calls _ _ #[Value.string Z] _ _; refine (H4.out _ (((HT.out.keep F1.out).keep F2.out).keep F3.out)).mono ?_; rintro e w4 ⟨rfl, h⟩; have F4 := Lib.hid h; clear h))
      | (go_at_call 23; first
          | (with_reducible show Calls _ _ #[_, Value.int .u8 92] _ _; refine (H1.out _).mono ?_; rintro e w1 ⟨rfl, h⟩; have F1 := Lib.hid h; clear h)
          | (with_reducible show Calls _ _ #[_, Value.int .u8 54] _ _; refine (H2.out _).mono ?_; rintro e w2 ⟨rfl, h⟩; have F2 := Lib.hid h; clear h))
      | (refine wpList_strcat _ _ 9 rfl rfl B s rfl rfl hc1 ?_; rw [hX])
      | (refine wpList_strcat _ _ 9 rfl rfl A Y rfl rfl hc2 ?_; rw [hZ]))
    go_ret
    exact ⟨rfl, ((F1.out.trans F2.out (fun _ h => .inl h)).trans F3.out (fun _ h => .inl h)).trans F4.out (fun _ h => .inl h)⟩
end Go.Proofs.YtmcenocmilhekaaDoor
