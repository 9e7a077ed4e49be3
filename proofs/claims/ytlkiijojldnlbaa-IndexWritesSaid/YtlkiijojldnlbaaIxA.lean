/- Layer 27 (index): IndexBounds. -/
import Derived.Test.YtlkiijojldnlbaaIx9
import Derived.Test.YtlkiijojldnlbaaIx6
namespace Go.Ix
set_option linter.unusedVariables false
theorem le_lb4 (n : Nat) (h : n < 4294967296) : le (lb n 4) = n := by
  have e : lb n 4 = [UInt8.ofNat (n / 256 ^ 0 % 256), UInt8.ofNat (n / 256 ^ 1 % 256), UInt8.ofNat (n / 256 ^ 2 % 256), UInt8.ofNat (n / 256 ^ 3 % 256)] := rfl
  rw [e]
  have u : ∀ m : Nat, (UInt8.ofNat (m % 256)).toNat = m % 256 := fun m => by rw [UInt8.toNat_ofNat']; exact Nat.mod_mod _ _
  simp only [le, u]
  omega
theorem le_lb2 (n : Nat) (h : n < 65536) : le (lb n 2) = n := by
  have e : lb n 2 = [UInt8.ofNat (n / 256 ^ 0 % 256), UInt8.ofNat (n / 256 ^ 1 % 256)] := rfl
  rw [e]
  have u : ∀ m : Nat, (UInt8.ofNat (m % 256)).toNat = m % 256 := fun m => by rw [UInt8.toNat_ofNat']; exact Nat.mod_mod _ _
  simp only [le, u]
  omega
end Go.Ix
namespace Go.Proofs.Ytlkiijojldnlbaa
set_option linter.unusedVariables false
open Go.RowKit Go.My Go.Ix

/-- Their items. -/
def itm (L : Ents) : List (List UInt8 × Nat) := L.map fun x => (x.1, x.2.length)
theorem st1_enc (x : List UInt8 × List UInt8) (r : List UInt8) (t : Nat) (h1 : x.1.length ≤ 1024) (h2 : t + x.2.length ≤ 16777216) : st1 (enc1 x ++ r) t = some (r, t + x.2.length, (x.1, x.2.length)) := by
  have hl := enc1_length x
  have e : enc1 x ++ r = lb x.1.length 2 ++ (x.1 ++ (lb x.2.length 4 ++ r)) := by unfold enc1; simp only [List.append_assoc]
  have t2 : (enc1 x ++ r).take 2 = lb x.1.length 2 := by rw [e]; exact List.take_left' (lb_length _ _)
  have d2 : (enc1 x ++ r).drop 2 = x.1 ++ (lb x.2.length 4 ++ r) := by rw [e]; exact List.drop_left' (lb_length _ _)
  have ln : (enc1 x ++ r).length = 6 + x.1.length + r.length := by rw [List.length_append, hl]
  unfold st1
  rw [t2, d2, le_lb2 _ (by omega), ln, List.drop_left' rfl, List.take_left' rfl, List.take_left' (lb_length _ _), List.drop_left' (lb_length _ _), le_lb4 _ (by omega)]
  rw [if_neg (by omega), if_neg (by omega), if_neg (by omega)]
/-- The bytes of all entries so far. -/
def sumN (L : Ents) : Nat → Nat
  | 0 => 0
  | i + 1 => sumN L i + (L.getD i ([], [])).2.length
theorem sumN_le (L : Ents) (hx : Small L) : ∀ i, i ≤ L.length → sumN L i ≤ 200 * i
  | 0, _ => Nat.le_refl _
  | i + 1, h => by
    have := sumN_le L hx i (by omega)
    have h2 := (hx i (by omega)).2
    have e : L.getD i ([], []) = L[i] := by simp [List.getD, List.getElem?_eq_getElem (show i < L.length by omega)]
    show sumN L i + (L.getD i ([], [])).2.length ≤ _
    rw [e]
    omega
theorem stN_enc (L : Ents) (hx : Small L) (hg : Gd L) : ∀ i, i ≤ L.length → stN (encL L) i = some ((L.drop i).flatMap enc1, sumN L i, (itm L).take i)
  | 0, _ => by
    unfold encL
    simp only [stN, List.drop_left' (lb_length _ _), List.drop_zero, List.take_zero]
    rfl
  | i + 1, h => by
    have hs := sumN_le L hx i (by omega)
    have hk : i < L.length := by omega
    have hsm := (hx i hk).2
    have hle := hg.2
    rw [stN_next (stN_enc L hx hg i (by omega)), List.drop_eq_getElem_cons hk, List.flatMap_cons, st1_enc _ _ _ (hg.1 i hk) (by omega)]
    have e : L.getD i ([], []) = L[i] := by simp [List.getD, List.getElem?_eq_getElem hk]
    have e2 : (itm L).take (i + 1) = (itm L).take i ++ [(L[i].1, L[i].2.length)] := by
      have : i < (itm L).length := by simpa [itm] using hk
      rw [List.take_succ_eq_append_getElem this]
      simp [itm]
    rw [e2]
    show _ = some (_, sumN L i + (L.getD i ([], [])).2.length, _)
    rw [e]
/-- An index of entries is read again. -/
theorem decR_enc (L : Ents) (hx : Small L) (hg : Gd L) : decR (encL L) = some (itm L) := by
  have h4 : (encL L).take 4 = lb L.length 4 := by unfold encL; exact List.take_left' (lb_length _ _)
  have hle := hg.2
  have hle4 : le ((encL L).take 4) = L.length := by rw [h4]; exact le_lb4 _ (by omega)
  have hl : 4 ≤ (encL L).length := by unfold encL; rw [List.length_append, lb_length]; omega
  unfold decR
  rw [if_neg (by omega), hle4, stN_enc L hx hg _ (Nat.le_refl _)]
  simp only [List.drop_length, List.flatMap_nil]
  rw [if_pos ⟨trivial, hle⟩, List.take_of_length_le (by simp [itm])]

theorem entsV_rep : ∀ n, entsV (List.replicate n ([], [])) = List.replicate (n * 2) (.string ByteArray.empty)
  | 0 => rfl
  | n + 1 => by
    have ih := entsV_rep n
    have e : (n + 1) * 2 = n * 2 + 1 + 1 := by omega
    rw [e, List.replicate_succ, List.replicate_succ, List.replicate_succ, ← ih]
    rfl
theorem entsV_set : ∀ (L : Ents) (k : Nat) (x : List UInt8), k < L.length → (entsV L).set (k * 2) (.string ⟨x.toArray⟩) = entsV (L.set k (x, (L.getD k ([], [])).2))
  | [], k, x, h => by simp at h
  | y :: L, 0, x, h => by simp [entsV]
  | y :: L, k + 1, x, h => by
    have ih := entsV_set L k x (by simpa using h)
    have e : (k + 1) * 2 = k * 2 + 1 + 1 := by omega
    rw [e]
    simp only [entsV, List.flatMap_cons] at ih ⊢
    simpa [entsV] using ih
theorem entsV_length (L : Ents) : (entsV L).length = L.length * 2 := by
  induction L with
  | nil => rfl
  | cons x L ih => simp only [entsV, List.flatMap_cons, List.length_append, List.length_cons] at ih ⊢; simp at ih ⊢; omega
theorem infoEn : (Try.prog.info? 54).map (fun i => (i.zero, i.size, i.bytes)) = some (some (.agg #[.string ByteArray.empty, .string ByteArray.empty]), 2, 32) := by kernel_rfl
theorem make_ents (n : Nat) (hn : n ≤ 65536) (w : World) : (Instr.makeSlice 51 (.int .i64 (n : Int)) (.int .i64 (n : Int))).run Try.prog w = .ok (.slice (some ⟨w.heap.size, 0, none⟩) n n) (w.alloc (.cells (entsV (List.replicate n ([], []))).toArray 54)) := by
  obtain ⟨i0, hi, hz0, hz1, hz2⟩ := info_parts infoEn
  have h := run_make (P := Try.prog) w 51 54 i0 (.agg #[.string ByteArray.empty, .string ByteArray.empty]) Try.underlying51 hi hz0 .i64 .i64 n n (by omega) (by omega) (by rw [hz2]; omega) (by omega)
  have e : madeCells (Value.agg #[.string ByteArray.empty, .string ByteArray.empty]).cells (n * 2) = (entsV (List.replicate n ([], []))).toArray := by
    rw [entsV_rep]
    apply Array.ext
    · simp [madeCells]
    · intro i h1 h2
      have : i % 2 < 2 := Nat.mod_lt _ (by decide)
      rcases Nat.lt_or_ge (i % 2) 1 with h | h
      · have h0 : i % 2 = 0 := by omega
        simp [madeCells, Value.cells, h0]
      · have h0 : i % 2 = 1 := by omega
        simp [madeCells, Value.cells, h0]
  rw [h, hz1]
  simp only [Int.toNat_natCast]
  rw [e]

set_option maxHeartbeats 4000000 in
set_option maxRecDepth 100000 in
theorem indexBounds_walk (n nm : Int) (hn : 0 ≤ n ∧ n < 65536) (hm : 0 ≤ nm ∧ nm < 65536) (w : World) :
    Calls Try.prog 6 #[.int .u16 n, .int .u16 nm] w fun e w' => e = .returned (.bool true) ∧ Fr (fun _ => False) w w' := by
  obtain ⟨hn0, hn1⟩ := hn
  obtain ⟨hm0, hm1⟩ := hm
  obtain ⟨c, hc⟩ : ∃ c : Nat, n % 1100 = (c : Int) := ⟨(n % 1100).toNat, by omega⟩
  obtain ⟨lg, hlg⟩ : ∃ c : Nat, nm % 1100 = (c : Int) := ⟨(nm % 1100).toNat, by omega⟩
  have hc2 : n.tmod 1100 = (c : Int) := by rw [Int.tmod_eq_emod_of_nonneg hn0]; exact hc
  have hlg2 : nm.tmod 1100 = (lg : Int) := by rw [Int.tmod_eq_emod_of_nonneg hm0]; exact hlg
  have hcb : c < 1100 := by omega
  have hlb : lg < 1100 := by omega
  have hcI : (c : Int) < 1100 := by omega
  have hlI : (lg : Int) < 1100 := by omega
  go_enter Try.func6, Try.ntmps6
  go_upto_region 3 with (go_at_call 16; refine (speaks27 w).mono ?_; rintro e w1 ⟨rfl, h⟩; have F1 := Lib.hid h; clear h)
  go_upto_region 4 with fail
  clear hc hlg hc2 hlg2
  have hmk := make_ents c (by omega) w1
  have hst : ∃ W g, w1.alloc (.cells (entsV (List.replicate c ([], []))).toArray 54) = W ∧ w1.heap.size = g ∧ Fr (fun _ => False) w W ∧ W.heap[g]? = some (.cells (entsV (List.replicate c ([], []))).toArray 54 (0, 0)) ∧ w.heap.size ≤ g :=
    ⟨_, _, rfl, rfl, F1.out.alloc _, heap_alloc_new w1 _, F1.out.size⟩
  obtain ⟨W, g, hW, hg, hf, hb, hgs⟩ := hst
  rw [hW, hg] at hmk
  have HF := Lib.hid hf
  have HB := Lib.hid hb
  have HG := Lib.hid hgs
  clear hW hg hf hb hgs
  go_upto_region 5 with fail
  clear hmk F1
  go_upto_if 23 with (fail)
  go_cut [31] (fun _ w' => ∃ L : Ents, Hid (L.length = c) ∧ Hid (Small L) ∧ Hid (Gd L ↔ (c ≤ 1024 ∧ (0 < c → lg ≤ 1024))) ∧ Hid (w'.ownsRow g 54 2 (.slice (some ⟨g, 0, none⟩) c c) c (entsV L)) ∧ Hid (Fr (fun _ => False) w w'))
  case first =>
    by_cases hc0 : 0 < c
    · have hcI0 : (0 : Int) < (c : Int) := by omega
      obtain ⟨m, hm⟩ : ∃ m : Nat, c / 2 = m := ⟨_, rfl⟩
      have hmI : (c : Int) / 2 = (m : Int) := by omega
      have hmI2 : (c : Int).tdiv 2 = (m : Int) := by rw [Int.tdiv_eq_ediv_of_nonneg (by omega)]; exact hmI
      have hmc : m < c := by omega
      have hmcI : (m : Int) < (c : Int) := by omega
      have hm0 : (0 : Int) ≤ (m : Int) := by omega
      have hmk := make_bytes lg (by omega) W
      have hl2 : (entsV (List.replicate c ([], []))).length = c * 2 := by rw [entsV_length, List.length_replicate]
      have hex : ∃ W2 b, W.alloc (.cells (bytesV (List.replicate lg 0)).toArray 5) = W2 ∧ W.heap.size = b ∧ Fr (fun _ => False) w W2 ∧ W2.heap[g]? = some (.cells (entsV (List.replicate c ([], []))).toArray 54 (0, 0)) ∧
          (convert 52 9 (.slice (some ⟨b, 0, none⟩) lg lg)).run Try.prog W2 = .ok (.string ⟨(List.replicate lg 0).toArray⟩) W2 :=
        ⟨_, _, rfl, rfl, HF.out.alloc _, block_alloc HB.out, own_text (B := 0) (n := lg) ⟨by simp [bytesV], .inr ⟨_, lg, _, rfl, Nat.zero_le _, heap_alloc_new W _, Nat.le_refl _, by unfold maxLen; omega, by simp [bytesV], List.take_of_length_le (by simp [bytesV])⟩⟩⟩
      obtain ⟨W2, b, hW2, hb2, hf2, hg2, hcv⟩ := hex
      rw [hW2, hb2] at hmk
      have HF2 := Lib.hid hf2
      have HG2 := Lib.hid hg2
      have e0 : W2.cell? ⟨g, m * 2, none⟩ = some (.string ByteArray.empty) := by
        rw [cell_of hg2, List.getElem?_toArray, entsV_rep, List.getElem?_replicate, if_pos (by omega)]
      have f0 := free_of hg2 (m * 2)
      clear hW2 hb2 hf2 hg2
      obtain ⟨SZ, hSZ⟩ : ∃ S : ByteArray, (⟨(List.replicate lg (0 : UInt8)).toArray⟩ : ByteArray) = S := ⟨_, rfl⟩
      rw [hSZ] at hcv
      have HSZ := Lib.hid hSZ
      have Hm := Lib.hid hm
      have Hl2 := Lib.hid hl2
      clear hSZ hm hl2
      go_wp2
      go_meet
      have hset := block_setCell HG2.out (.string SZ) (off := m * 2)
      rw [← HSZ.out] at hset ⊢
      have hla : (entsV (List.replicate c ([], []))).toArray.setIfInBounds (m * 2) (.string ⟨(List.replicate lg (0 : UInt8)).toArray⟩) = (entsV ((List.replicate c ([], [])).set m (List.replicate lg 0, []))).toArray := by
        rw [List.setIfInBounds_toArray, entsV_set _ _ _ (by simpa using hmc)]
        simp [List.getD, hmc]
      rw [hla] at hset
      have hget : ∀ (k : Nat) (h : k < ((List.replicate c (([], []) : List UInt8 × List UInt8)).set m (List.replicate lg 0, [])).length), ((List.replicate c (([], []) : List UInt8 × List UInt8)).set m (List.replicate lg 0, []))[k] = if m = k then (List.replicate lg 0, []) else ([], []) := fun k h => by
        rw [List.getElem_set]
        split
        · rfl
        · simp
      refine ⟨(List.replicate c ([], [])).set m (List.replicate lg 0, []), ?_, ?_, ?_, ?_, ?_⟩
      · exact Lib.hid (by simp)
      · refine Lib.hid (fun k h => ?_)
        rw [hget k h]
        split
        · simp; omega
        · simp
      · refine Lib.hid ⟨fun h => ⟨by simpa using h.2, fun _ => ?_⟩, fun h => ⟨fun k hk => ?_, by simpa using h.1⟩⟩
        · have := h.1 m (by simpa using hmc)
          rw [hget m (by simpa using hmc), if_pos rfl] at this
          simpa using this
        · rw [hget k hk]
          split
          · simpa using h.2 hc0
          · simp
      · exact Lib.hid ⟨by rw [entsV_length]; simp, .inr ⟨g, c, _, rfl, Nat.le_refl _, hset, Nat.le_refl _, by unfold maxLen; omega, by simp [entsV_length], List.take_of_length_le (by simp [entsV_length])⟩⟩
      · exact Lib.hid (HF2.out.setCell _ _ (.inr HG.out))
    · obtain rfl : c = 0 := by omega
      go_wp2
      go_meet
      refine ⟨[], Lib.hid rfl, Lib.hid (fun k h => by simp at h), Lib.hid ⟨fun _ => ⟨by decide, fun h => absurd h (by decide)⟩, fun _ => ⟨fun k h => by simp at h, by simp⟩⟩, ?_, HF⟩
      exact Lib.hid ⟨rfl, .inr ⟨g, 0, _, rfl, Nat.le_refl _, HB.out, Nat.le_refl _, by decide, by simp [entsV], by simp [entsV]⟩⟩
  case rest =>
    obtain ⟨L, HL, HS, HGd, HO, HF2⟩ := hcut
    clear HF HB HG
    by_cases hok : c ≤ 1024 ∧ (0 < c → lg ≤ 1024)
    · have hgd : Gd L := HGd.out.2 hok
      have hen := fun U (ho : U.ownsRow g 54 2 (.slice (some ⟨g, 0, none⟩) c c) c (entsV L)) => encode_is L c HL.out HS.out hgd g _ U ho
      have hel : (encL L).length ≤ 4000000 := by
        have := encTo_length L HS.out L.length (Nat.le_refl _)
        rw [encTo_all] at this
        have := HL.out
        omega
      have h4 : le ((encL L).take 4) ≤ 1024 := by
        have : (encL L).take 4 = lb L.length 4 := by unfold encL; exact List.take_left' (lb_length _ _)
        rw [this, le_lb4 _ (by have := HL.out; omega), HL.out]
        exact hok.1
      have hde := fun U => decode_big (encL L) (.inr ⟨hel, h4⟩) U
      rw [decR_enc L HS.out hgd] at hde
      have hit : (itm L).length = c := by rw [← HL.out]; simp [itm]
      dsimp only at hde
      rw [hit] at hde
      generalize (⟨(encL L).toArray⟩ : ByteArray) = S at *
      have HE := Lib.hid hen
      have HD := Lib.hid hde
      obtain ⟨hc1, hc2⟩ := hok
      have hc1I : ¬ (1024 : Int) < (c : Int) := by omega
      clear hen hel h4 hde hit hgd HGd HS HL
      go_upto_region 8 with (go_at_call 19; refine (HE.out _ HO.out).mono ?_; rintro e w3 ⟨rfl, h⟩; have F3 := Lib.hid (HF2.out.trans h (fun _ h => .inl h)); clear h)
      clear HE HO HF2
      by_cases hc0 : 0 < c
      all_goals
        (try have hlI : ¬ (1024 : Int) < (lg : Int) := by omega)
        have hc0I : decide ((0 : Int) < (c : Int)) = decide (0 < c) := by simp
        go_wp2_with (go_at_call 17; refine (HD.out _).mono ?_; rintro e w4 ⟨⟨v, hv, rfl⟩, hf⟩; have F4 := Lib.hid (F3.out.trans hf (fun _ h => .inl h)); obtain ⟨a, p, hvv⟩ := own_any hv; subst hvv; clear hv hf)
        go_ret
        exact ⟨rfl, F4.out⟩
    · have hgd : ¬ Gd L := fun h => hok (HGd.out.1 h)
      have hen := fun U (ho : U.ownsRow g 54 2 (.slice (some ⟨g, 0, none⟩) c c) c (entsV L)) => encode_bad L c HL.out (by omega) HS.out hgd g _ U ho
      have HE := Lib.hid hen
      clear hen hgd HGd HS HL
      go_upto_region 8 with (go_at_call 19; refine (HE.out _ HO.out).mono ?_; rintro e w3 ⟨rfl, h⟩; have F3 := Lib.hid (HF2.out.trans h (fun _ h => .inl h)); clear h)
      clear HE HO HF2
      by_cases hc1 : 1024 < c
      · have hc1I : (1024 : Int) < (c : Int) := by omega
        go_wp2
        go_ret
        exact ⟨rfl, F3.out⟩
      · have hc1I : ¬ (1024 : Int) < (c : Int) := by omega
        have hc0 : (0 : Int) < (c : Int) := by omega
        have hlI : (1024 : Int) < (lg : Int) := by omega
        clear hok
        go_wp2
        go_ret
        exact ⟨rfl, F3.out⟩
end Go.Proofs.Ytlkiijojldnlbaa
