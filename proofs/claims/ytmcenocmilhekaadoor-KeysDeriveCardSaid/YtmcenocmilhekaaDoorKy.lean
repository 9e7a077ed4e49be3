/- Walks of layer 26 (keys): a number's eight bytes; the keys of a password. -/
import Derived.Test.YtmcenocmilhekaaDoorHm2
namespace Go.Proofs.YtmcenocmilhekaaDoor
set_option linter.unusedVariables false
open Go.RowKit Go.My Go.Sha

def eightL (n : Nat) (k : Nat) : List UInt8 := (List.range 8).map fun i => if i < k then (n / 2 ^ (8 * i)).toUInt8 else 0
theorem eightL_length (n k : Nat) : (eightL n k).length = 8 := by simp [eightL]
theorem eightL_zero (n : Nat) : eightL n 0 = List.replicate 8 0 := rfl
theorem eightL_set (n k : Nat) (hk : k < 8) : (eightL n k).set k ((n / 2 ^ (8 * k)).toUInt8) = eightL n (k + 1) := by
  match k, hk with
  | 0, _ => rfl
  | 1, _ => rfl
  | 2, _ => rfl
  | 3, _ => rfl
  | 4, _ => rfl
  | 5, _ => rfl
  | 6, _ => rfl
  | 7, _ => rfl

set_option maxHeartbeats 2000000 in
set_option maxRecDepth 100000 in
theorem eight_is (n : Nat) (hn : n ≤ 2000000) (w : World) :
    Calls Tryd.prog 24 #[.int .i64 (n : Int)] w fun e w' => e = .returned (.string ⟨(eightL n 8).toArray⟩) ∧ Fr (fun _ => False) w w' := by
  have hmk : (Instr.makeSlice 33 (.int .i64 8) (.int .i64 8)).run Tryd.prog w = .ok (.slice (some ⟨w.heap.size, 0, none⟩) 8 8) (w.alloc (.cells (bytesV (eightL n 0)).toArray 5)) := make_bytes 8 (by decide) w
  obtain ⟨W1, hW1⟩ : ∃ W1, w.alloc (.cells (bytesV (eightL n 0)).toArray 5) = W1 := ⟨_, rfl⟩
  obtain ⟨g, hg⟩ : ∃ g, w.heap.size = g := ⟨_, rfl⟩
  have hb : W1.heap[g]? = some (.cells (bytesV (eightL n 0)).toArray 5 (0, 0)) := by rw [← hW1, ← hg]; exact heap_alloc_new w _
  have hf : Fr (fun _ => False) w W1 := by rw [← hW1]; exact (Fr.refl _ _).alloc _
  rw [hW1, hg] at hmk
  have Hmk := Lib.hid hmk
  have HB := Lib.hid hb
  have HF := Lib.hid hf
  have HL : Hid (w.heap.size ≤ g) := by show w.heap.size ≤ g; omega
  clear hmk hW1 hg hb hf
  have hmk := Hmk.out
  go_enter Tryd.func24, Tryd.ntmps24
  go_wp2
  clear hmk Hmk
  go_loopw [4, 8] (fun _ v8 wr => ∃ k : Nat, k ≤ 8 ∧ v8 = .int .i64 (k : Int) ∧ Hid (Fr (fun _ => False) w wr) ∧ Hid (wr.heap[g]? = some (.cells (bytesV (eightL n k)).toArray 5 (0, 0)))) (fun _ v8 _ => 8 - (intOf v8).toNat)
  case atStart => exact ⟨0, by omega, rfl, HF, HB⟩
  case round =>
    obtain ⟨k, hk, rfl, KF, KB⟩ := hrel
    clear HF HB
    by_cases hlt : k < 8
    · have hlI : (k : Int) < 8 := by omega
      have hk0 : (0 : Int) ≤ (k : Int) := by omega
      have c0 : wr.cell? ⟨g, k, none⟩ = some (.int .u8 (((eightL n k).getD k 0).toNat : Int)) := by
        rw [cell_of KB.out k]
        have : k < (eightL n k).length := by rw [eightL_length]; exact hlt
        simp [bytesV, List.getD, this]
      have f0 := free_of KB.out k
      have hx : (n : Int) / 2 ^ (8 * k) % 256 = (((n / 2 ^ (8 * k)).toUInt8).toNat : Int) := by
        simp only [Nat.toUInt8, UInt8.toNat_ofNat']
        norm_cast
      have hset := block_setCell KB.out (.int .u8 (((n / 2 ^ (8 * k)).toUInt8).toNat : Int)) (off := k)
      rw [bytesA_set, eightL_set n k hlt] at hset
      have hfr := KF.out.setCell ⟨g, k, none⟩ (.int .u8 (((n / 2 ^ (8 * k)).toUInt8).toNat : Int)) (.inr HL.out)
      have HX := Lib.hid hx
      have IB := Lib.hid hset
      have IF := Lib.hid hfr
      clear hx hset hfr
      generalize (n / 2 ^ (8 * k)).toUInt8 = xb at *
      go_wp2
      rw [HX.out]
      go_roundw
      case rel => exact ⟨k + 1, by omega, by go_num, IF, IB⟩
      case measure => simp [intOf]; omega
    · obtain rfl : k = 8 := by omega
      have hbr : Br wr 0 (.slice (some ⟨g, 0, none⟩) 8 8) (eightL n 8) :=
        ⟨g, 8, _, (0, 0), ⟨by rw [eightL_length], KB.out, Nat.zero_le _, by rw [eightL_length]; exact Nat.le_refl _, by simp [bytesV, eightL_length], fun j hj => by
          have hj2 : j < (eightL n 8).length := hj
          simp [bytesV, List.getD, hj2], fun j _ => by simp⟩⟩
      have Htx := Lib.hid hbr.text
      clear hbr hlt hk
      go_wp2_with (refine wpList_cv 33 9 _ rfl rfl _ _ rfl Htx.out ?_)
      go_ret
      exact ⟨rfl, KF.out⟩

/-- Behind so many rounds. -/
def hN (pw salt : ByteArray) : Nat → ByteArray
  | 0 => sumS (salt ++ pw)
  | i + 1 => sumS (hN pw salt i ++ salt ++ pw ++ ⟨(eightL i 8).toArray⟩)
theorem hN_size (pw salt : ByteArray) (i : Nat) : (hN pw salt i).size = 32 := by cases i <;> exact sumS_size _

set_option maxHeartbeats 2000000 in
set_option maxRecDepth 100000 in
theorem derive_is (pw salt : ByteArray) (hp : pw.size ≤ 1000) (hs : salt.size ≤ 1000) (power : Int) (r : Nat) (hr : r ≤ 6) (hpow : (if 20 < if power < 0 then 0 else power then 20 else if power < 0 then 0 else power) = (r : Int)) (hpb : -9223372036854775808 ≤ power ∧ power ≤ 9223372036854775807) (w : World) (hT : KTab w) :
    Calls Tryd.prog 16 #[.string pw, .string salt, .int .i64 power] w fun e w' => e = .returned (.agg #[.string (hmacS (hN pw salt (2 ^ r)) ⟨#[99, 105, 112, 104, 101, 114]⟩), .string (hmacS (hN pw salt (2 ^ r)) ⟨#[115, 117, 109]⟩)]) ∧ Fr (fun _ => False) w w' := by
  have hsz0 : (salt ++ pw).size ≤ 2000 := by rw [ByteArray.size_append]; omega
  have h0 := fun W (hW : KTab W) => sum_is (salt ++ pw) (by omega) W hW
  have hc0 : salt.size + pw.size ≤ 1000000000 := by omega
  have HT := Lib.hid hT
  have H0 := Lib.hid h0
  have HP := Lib.hid hpow
  clear h0 hT hsz0 hpow
  have hN0 : sumS (salt ++ pw) = hN pw salt 0 := rfl
  rw [hN0] at H0
  clear hN0
  obtain ⟨X0, hX0⟩ : ∃ X0, salt ++ pw = X0 := ⟨_, rfl⟩
  rw [hX0] at H0
  go_enter Tryd.func16, Tryd.ntmps16
  go_upto_block 0 with (first
    | (refine wpList_strcat _ _ 9 rfl rfl salt pw rfl rfl hc0 ?_; rw [hX0])
    | (go_at_call 8; refine (H0.out _ (HT.out.keep ((Fr.refl (fun _ => False) w).alloc (.cells #[.string ⟨#[]⟩, .string ⟨#[]⟩] 35)))).mono ?_; rintro e w1 ⟨rfl, h⟩; have F0 := Lib.hid h; clear h))
  rw [HP.out]
  have hp2 : (2 : Nat) ^ r ≤ 64 := Nat.le_trans (Nat.pow_le_pow_right (by decide) hr) (by decide)
  have he2 : wrap64 ((2 : Int) ^ ((r : Int)).toNat) = ((2 ^ r : Nat) : Int) := by
    have e : ((2 : Int) ^ r) = ((2 ^ r : Nat) : Int) := by norm_cast
    have key : ∀ M : Nat, M ≤ 64 → wrap64 (M : Int) = M := fun M h => IntWalk.wrap64_in _ (by omega)
    rw [Int.toNat_natCast, e]
    exact key _ hp2
  rw [he2]
  clear he2
  generalize (if power < 0 then (0 : Int) else power) = pm
  obtain ⟨N, hNr⟩ : ∃ N, 2 ^ r = N := ⟨_, rfl⟩
  rw [hNr] at hp2 ⊢
  have HNr := Lib.hid hNr
  clear hNr
  obtain ⟨g, hg⟩ : ∃ g, w.heap.size = g := ⟨_, rfl⟩
  have HF : Hid (Fr (fun _ => False) w w1) := ((Fr.refl _ w).alloc _).trans F0.out (fun _ h => h.elim)
  have HB : Hid (w1.heap[g]? = some (.cells #[.string ⟨#[]⟩, .string ⟨#[]⟩] 35 (0, 0))) := by rw [← hg]; exact F0.out.keep (heap_alloc_new w _) (fun h => h)
  have HL : Hid (w.heap.size ≤ g) := by show w.heap.size ≤ g; omega
  rw [hg]
  clear F0 hg H0 hX0 hc0 HP
  go_wp2
  go_loopw [7, 8, 17] (fun v7 _ v17 wr => ∃ i : Nat, i ≤ N ∧ v17 = .int .i64 (i : Int) ∧ v7 = .string (hN pw salt i) ∧ Hid (Fr (fun _ => False) w wr) ∧ Hid (wr.heap[g]? = some (.cells #[.string ⟨#[]⟩, .string ⟨#[]⟩] 35 (0, 0)))) (fun _ _ v17 _ => N - (intOf v17).toNat)
  case atStart => exact ⟨0, by omega, rfl, rfl, HF, HB⟩
  case round =>
    obtain ⟨i, hi, rfl, rfl, KF, KB⟩ := hrel
    clear HF HB
    by_cases hlt : i < N
    · have hnx : sumS (hN pw salt i ++ salt ++ pw ++ ⟨(eightL i 8).toArray⟩) = hN pw salt (i + 1) := rfl
      have hhs := hN_size pw salt i
      have he := fun W => eight_is i (by omega) W
      have hes : (⟨(eightL i 8).toArray⟩ : ByteArray).size = 8 := by rw [mk_size, eightL_length]
      generalize (⟨(eightL i 8).toArray⟩ : ByteArray) = E at *
      obtain ⟨hnew, hne⟩ : ∃ hnew, hN pw salt (i + 1) = hnew := ⟨_, rfl⟩
      rw [hne] at hnx
      have HNE := Lib.hid hne
      clear hne
      generalize hN pw salt i = h at *
      have hc1 : h.size + salt.size ≤ 1000000000 := by omega
      obtain ⟨X1, hX1⟩ : ∃ X1, h ++ salt = X1 := ⟨_, rfl⟩
      have hx1 : X1.size = 32 + salt.size := by rw [← hX1, ByteArray.size_append, hhs]
      have hc2 : X1.size + pw.size ≤ 1000000000 := by omega
      obtain ⟨X2, hX2⟩ : ∃ X2, X1 ++ pw = X2 := ⟨_, rfl⟩
      have hx2 : X2.size = 32 + salt.size + pw.size := by rw [← hX2, ByteArray.size_append, hx1]
      have hc3 : X2.size + E.size ≤ 1000000000 := by omega
      obtain ⟨X3, hX3⟩ : ∃ X3, X2 ++ E = X3 := ⟨_, rfl⟩
      have hx3 : X3.size ≤ 1000000 := by rw [← hX3, ByteArray.size_append, hx2, hes]; omega
      rw [hX1, hX2, hX3] at hnx
      have hsum := fun W (hW : KTab W) => sum_is X3 hx3 W hW
      rw [hnx] at hsum
      have HE := Lib.hid he
      have HS := Lib.hid hsum
      have HX1 := Lib.hid hX1
      have HX2 := Lib.hid hX2
      have HX3 := Lib.hid hX3
      clear he hsum hnx hX1 hX2 hX3 hx1 hx2 hx3 hes hhs
      go_wp2_with (first
        | (refine wpList_strcat _ _ 9 rfl rfl h salt rfl rfl hc1 ?_; rw [HX1.out])
        | (refine wpList_strcat _ _ 9 rfl rfl X1 pw rfl rfl hc2 ?_; rw [HX2.out])
        | (refine wpList_strcat _ _ 9 rfl rfl X2 E rfl rfl hc3 ?_; rw [HX3.out])
        | (go_at_call 24; refine (HE.out _).mono ?_; rintro e w2 ⟨rfl, h'⟩; have F2 := Lib.hid h'; clear h')
        | (go_at_call 8; refine (HS.out _ ((HT.out.keep KF.out).keep F2.out)).mono ?_; rintro e w3 ⟨rfl, h'⟩; have F3 := Lib.hid h'; clear h'))
      have IF : Hid (Fr (fun _ => False) w w3) := (KF.out.trans F2.out (fun _ h => .inl h)).trans F3.out (fun _ h => .inl h)
      have IB : Hid (w3.heap[g]? = some (.cells #[.string ⟨#[]⟩, .string ⟨#[]⟩] 35 (0, 0))) := F3.out.keep (F2.out.keep KB.out (fun h => h)) (fun h => h)
      go_roundw
      case rel => exact ⟨i + 1, by omega, by go_num, by rw [HNE.out], IF, IB⟩
      case measure => simp [intOf]; omega
    · obtain rfl : i = N := by omega
      have hhs := hN_size pw salt i
      obtain ⟨h, hh⟩ : ∃ h, hN pw salt i = h := ⟨_, rfl⟩
      rw [hh] at hhs ⊢
      have HH := Lib.hid hh
      clear hh
      have hm1 := fun W (hW : KTab W) => hsum_is h ⟨#[99, 105, 112, 104, 101, 114]⟩ (by omega) (by decide) W hW
      have hm2 := fun W (hW : KTab W) => hsum_is h ⟨#[115, 117, 109]⟩ (by omega) (by decide) W hW
      obtain ⟨K1, hK1⟩ : ∃ K1, hmacS h ⟨#[99, 105, 112, 104, 101, 114]⟩ = K1 := ⟨_, rfl⟩
      obtain ⟨K2, hK2⟩ : ∃ K2, hmacS h ⟨#[115, 117, 109]⟩ = K2 := ⟨_, rfl⟩
      rw [hK1] at hm1
      rw [hK2] at hm2
      have HK1 := Lib.hid hK1
      have HK2 := Lib.hid hK2
      clear hK1 hK2
      have HM1 := Lib.hid hm1
      have HM2 := Lib.hid hm2
      clear hm1 hm2 hhs hlt hi
      go_wp2_with (first
        | (go_at_call 12; first
            | ((with_reducible show Calls _ _ #[_, Value.string ⟨#[99, 105, 112, 104, 101, 114]⟩] _ _); refine (HM1.out _ (HT.out.keep KF.out)).mono ?_; rintro e w2 ⟨rfl, h'⟩; have F2 := Lib.hid h'; clear h')
            | ((with_reducible show Calls _ _ #[_, Value.string ⟨#[115, 117, 109]⟩] _ _); refine (HM2.out _ ((HT.out.keep KF.out).keep F2.out)).mono ?_; rintro e w3 ⟨rfl, h'⟩; have F3 := Lib.hid h'; have IF : Hid (Fr (fun _ => False) w w3) := (KF.out.trans F2.out (fun _ h => .inl h)).trans F3.out (fun _ h => .inl h); have IB : Hid (w3.heap[g]? = some (.cells #[.string ⟨#[]⟩, .string ⟨#[]⟩] 35 (0, 0))) := F3.out.keep (F2.out.keep KB.out (fun h => h)) (fun h => h); have c0 : w3.cell? ⟨g, 0, none⟩ = some (.string ⟨#[]⟩) := (cell_of IB.out 0).trans rfl; have c1 : w3.cell? ⟨g, 1, none⟩ = some (.string ⟨#[]⟩) := (cell_of IB.out 1).trans rfl; have ff := free_of IB.out; clear h')))
      have hb1 := block_setCell (block_setCell IB.out (.string K1) (off := 0)) (.string K2) (off := 1)
      have r3 : (loadVar 35 ⟨g, 0, none⟩).run Tryd.prog ((w3.setCell ⟨g, 0, none⟩ (.string K1)).setCell ⟨g, 1, none⟩ (.string K2)) = .ok (.agg #[.string K1, .string K2]) ((w3.setCell ⟨g, 0, none⟩ (.string K1)).setCell ⟨g, 1, none⟩ (.string K2)) :=
        run_loadVar_row _ g 35 35 #[.string K1, .string K2] _ _ hb1 Tryd.underlying35 rfl (by kernel_rfl)
      refine bodyPost_ret (results_cell Tryd.results16 rfl r3) rfl ?_
      exact ⟨by rw [HNr.out, HH.out, HK1.out, HK2.out], (IF.out.setCell ⟨g, 0, none⟩ _ (.inr HL.out)).setCell ⟨g, 1, none⟩ _ (.inr HL.out)⟩
end Go.Proofs.YtmcenocmilhekaaDoor
