/- Walks of layer 23's reference: roots, constants. -/
import Derived.Test.YtmcenocmilhekaaDoorSh6
namespace Go.Proofs.YtmcenocmilhekaaDoor
set_option linter.unusedVariables false
open Go.RowKit Go.My Go.Sha

theorem rootN_le (p f k : Nat) : rootN p f k + 34359738368 / 2 ^ k * 2 ≤ 137438953472 := by
  induction k with
  | zero => show 0 + 34359738368 / 2 ^ 0 * 2 ≤ 137438953472; decide
  | succ k ih =>
    have e : 34359738368 / 2 ^ (k + 1) = 34359738368 / 2 ^ k / 2 := by rw [Nat.pow_succ, Nat.div_div_eq_div_mul]
    have hr : rootN p f (k + 1) = if mostB (rootN p f k + 34359738368 / 2 ^ k) p f then rootN p f k + 34359738368 / 2 ^ k else rootN p f k := rfl
    rw [e, hr]
    generalize 34359738368 / 2 ^ k = b at *
    split <;> omega

set_option maxHeartbeats 2000000 in
set_option maxRecDepth 100000 in
theorem root_is (p f : Nat) (hp : p < 18446744073709551616) (hf1 : 1 ≤ f) (hf : f ≤ 3) (w : World) :
    Calls Tryd.prog 19 #[.int .u64 (p : Int), .int .i64 (f : Int)] w fun e w' => e = .returned (.int .u32 (root p f : Nat)) ∧ Fr (fun _ => False) w w' := by
  have Hp := Lib.hid hp
  clear hp
  go_enter Tryd.func19, Tryd.ntmps19
  go_wp2
  go_loopw [5, 6] (fun v5 v6 wr => ∃ k b : Nat, k ≤ 36 ∧ Hid (b = 34359738368 / 2 ^ k) ∧ v5 = .int .u64 (rootN p f k : Nat) ∧ v6 = .int .u64 (b : Int) ∧ Hid (Fr (fun _ => False) w wr)) (fun _ v6 _ => (intOf v6).toNat)
  case atStart => exact ⟨0, 34359738368, by omega, (Nat.div_one _).symm, rfl, rfl, Fr.refl _ _⟩
  case round =>
    obtain ⟨k, b, hk, hb, rfl, rfl, KF⟩ := hrel
    by_cases hlt : k < 36
    · have hbb := hb.out
      have hpos : 0 < b := by
        rw [hbb]
        exact Nat.div_pos (by
          calc 2 ^ k ≤ 2 ^ 35 := Nat.pow_le_pow_right (by decide) (by omega)
            _ = 34359738368 := by decide) (Nat.two_pow_pos k)
      have hle := rootN_le p f k
      rw [← hbb] at hle
      have hnx : rootN p f (k + 1) = if mostB (rootN p f k + b) p f then rootN p f k + b else rootN p f k := by rw [hbb]; rfl
      have hb2 : b / 2 = 34359738368 / 2 ^ (k + 1) := by rw [hbb, Nat.pow_succ, Nat.div_div_eq_div_mul]
      generalize rootN p f k = R at *
      have s1 : IntKind.u64.wrap ((R : Int) + (b : Int)) = ((R + b : Nat) : Int) := by rw [IntKind.wrap_u64]; omega
      have s2 : IntKind.u64.wrap ((b : Int) / 2) = ((b / 2 : Nat) : Int) := by rw [IntKind.wrap_u64]; omega
      have hm := fun W => most_is (R + b) p f (by omega) Hp.out hf1 hf W
      have Hm := Lib.hid hm
      have Hnx := Lib.hid hnx
      have Hb2 := Lib.hid hb2
      have S1 := Lib.hid s1
      have S2 := Lib.hid s2
      have hposI : (0 : Int) < (b : Int) := by omega
      have hdec : b / 2 < b := by omega
      have Hdec := Lib.hid hdec
      clear hbb hle hnx hb2 s1 s2 hm hb hdec
      obtain ⟨B, hB⟩ : ∃ B, mostB (R + b) p f = B := ⟨_, rfl⟩
      rw [hB] at Hm Hnx
      clear hB
      cases B
      · go_wp2_with (go_at_call 27; (try rw [S1.out]); refine (Hm.out _).mono ?_; rintro e w1 ⟨rfl, h1⟩; have HF1 := Lib.hid (KF.out.trans h1 (fun _ h => h.elim)); clear h1)
        (try rw [S2.out])
        go_roundw
        case rel => exact ⟨k + 1, b / 2, by omega, Hb2.out, by rw [Hnx.out]; rfl, rfl, HF1⟩
        case measure => simp only [intOf]; have := Hdec.out; omega
      · go_wp2_with (go_at_call 27; (try rw [S1.out]); refine (Hm.out _).mono ?_; rintro e w1 ⟨rfl, h1⟩; have HF1 := Lib.hid (KF.out.trans h1 (fun _ h => h.elim)); clear h1)
        (try rw [S2.out])
        (try rw [S1.out])
        go_roundw
        case rel => exact ⟨k + 1, b / 2, by omega, Hb2.out, by rw [Hnx.out]; rfl, rfl, HF1⟩
        case measure => simp only [intOf]; have := Hdec.out; omega
    · obtain rfl : k = 36 := by omega
      have hb0 : b = 0 := hb.out
      subst hb0
      have hr : root p f = rootN p f 36 % 4294967296 := rfl
      generalize rootN p f 36 = R at *
      have hrI : (R : Int) % 4294967296 = ((root p f : Nat) : Int) := by rw [hr]; omega
      have hrl : root p f < 4294967296 := by rw [hr]; exact Nat.mod_lt _ (by decide)
      have HrI := Lib.hid hrI
      clear hr hrl hrI hb
      go_wp2
      go_ret
      exact ⟨congrArg (fun t : Int => Ending.returned (.int .u32 t)) HrI.out, KF.out⟩

/-- The constants of the rounds, as a row. -/
def KRow (w : World) (v : Value) : Prop := ∃ q cap, v = .slice (some ⟨q, 0, none⟩) 64 cap ∧ ∀ t, t < 64 → w.cell? ⟨q, t, none⟩ = some (.int .u32 (kk.getD t 0 : Nat))
theorem KRow.keep {w w' : World} {v : Value} (h : KRow w v) (hf : Fr (fun _ => False) w w') : KRow w' v := by
  obtain ⟨q, cap, hv, hc⟩ := h
  exact ⟨q, cap, hv, fun t ht => hf.cell_ (hc t ht) (fun x => x)⟩
def kkV (n : Nat) : List Value := (kk.take n).map fun x : Nat => Value.int .u32 (x : Int)
theorem info32 : (Tryd.prog.info? 40).map (fun i => (i.zero, i.size, i.bytes)) = some (some (.int .u32 0), 1, 4) := by kernel_rfl
theorem kk_length : kk.length = 64 := by decide
theorem kkV_length (n : Nat) (h : n ≤ 64) : (kkV n).length = n := by simp [kkV, kk_length]; omega
theorem take_next (l : List Nat) (i : Nat) (h : i < l.length) : (l.take (i + 1)).map (fun x : Nat => Value.int .u32 (x : Int)) = (l.take i).map (fun x : Nat => Value.int .u32 (x : Int)) ++ [.int .u32 (l.getD i 0 : Nat)] := by
  have e : l.take (i + 1) = l.take i ++ [l.getD i 0] := by
    rw [List.take_add_one]
    simp [List.getD, h]
  rw [e, List.map_append]
  rfl
theorem kkV_get (l : List Nat) (t n : Nat) (h : l.length = n) (ht : t < n) : ((l.take n).map fun x : Nat => Value.int .u32 (x : Int))[t]? = some (.int .u32 (l.getD t 0 : Nat)) := by
  rw [List.take_of_length_le (by omega)]
  simp [List.getD, show t < l.length by omega]
theorem KRow.of {w : World} {B : Nat} {v : Value} (h : w.ownsRow B 40 1 v 64 (kkV 64)) : KRow w v := by
  obtain ⟨g, cap, rfl⟩ := own_slice h (by decide)
  refine ⟨g, cap, rfl, fun t ht => ?_⟩
  have hc := h.cells (g := g) rfl t (.int .u32 (kk.getD t 0 : Nat)) (kkV_get kk t 64 kk_length ht)
  rwa [addr_add0] at hc

set_option maxHeartbeats 4000000 in
set_option maxRecDepth 100000 in
theorem constants_is (w : World) :
    Calls Tryd.prog 10 #[] w fun e w' => ∃ v, e = .returned v ∧ KRow w' v ∧ Fr (fun _ => False) w w' := by
  go_enter Tryd.func10, Tryd.ntmps10
  go_wp2
  go_loopw [1, 2] (fun v1 v2 wr => ∃ i : Nat, i ≤ 64 ∧ v2 = .int .i64 (i : Int) ∧ Hid (Fr (fun _ => False) w wr) ∧ Hid (wr.ownsRow w.heap.size 40 1 v1 i (kkV i))) (fun _ v2 _ => 64 - (intOf v2).toNat)
  case atStart => exact ⟨0, by omega, rfl, Fr.refl _ _, ⟨rfl, .inl ⟨rfl, rfl⟩⟩⟩
  case round =>
    obtain ⟨i, hi, rfl, KF, KR⟩ := hrel
    by_cases hlt : i < 64
    · have hP := prime_is i hlt
      have hpb := (pr_bounds i hlt).2.1
      have hroot := fun W => root_is (pr i) 3 (by omega) (by decide) (by decide) W
      rw [root_three i hlt] at hroot
      have hnext : kkV (i + 1) = kkV i ++ [.int .u32 (kk.getD i 0 : Nat)] := by
        exact take_next kk i (by rw [kk_length]; exact hlt)
      generalize pr i = P at *
      generalize kk.getD i 0 = x at *
      replace hroot : ∀ W, Calls Tryd.prog 19 #[.int .u64 (P : Int), .int .i64 3] W fun e w' => e = .returned (.int .u32 (x : Int)) ∧ Fr (fun _ => False) W w' := hroot
      have HP := Lib.hid hP
      have HR := Lib.hid hroot
      have Hnext := Lib.hid hnext
      obtain ⟨i0, hi0', hz0, hz1, hz2⟩ := info_parts info32
      have Hi := Lib.hid hi0'
      have Hz0 := Lib.hid hz0
      have Hz1 := Lib.hid hz1
      have Hz2 := Lib.hid hz2
      obtain ⟨ad, cap, hv⟩ := own_any KR.out
      subst hv
      have hlI : (i : Int) < 64 := by omega
      clear hP hroot hnext hpb hi0' hz0 hz1 hz2
      go_wp2_with (first
        | (go_at_call 20; refine (HP.out _).mono ?_; rintro e w0 ⟨rfl, hw0⟩; rw [← hw0]; clear hw0)
        | (go_at_call 19; refine (HR.out _).mono ?_; rintro e w1 ⟨rfl, h1⟩; have HF1 := Lib.hid (KF.out.trans h1 (fun _ h => h.elim)); have HR1 := Lib.hid (own_keep KR.out h1 (fun _ _ h => h)); clear h1)
        | (at_builtin; refine wpList_append_my _ rfl _ _ 25 rfl w.heap.size 40 i0 (.int .u32 0) 1 4 Tryd.underlying25 Hi.out Hz0.out Hz1.out Hz2.out rfl (by decide) (.slice ad i cap) i _ (by rfl) (HR1.out.alloc _) ⟨w1.heap.size, 0, none⟩ 1 1 [.int .u32 (x : Int)] (by rfl) (by rfl) (World.news_of_block (cs := #[.int .u32 (x : Int)]) (t := 40) (fr := (0, 0)) (heap_alloc_new w1 _)) (by simp [Value.oneCell']) (by omega) (by unfold maxLen; omega) (by omega) (by have := HF1.out.size; simp; omega) (w1.heap.size + 1) (by simp) ?_; intro g cap2 w2 hown hgrow hat hlt2 hsame; have IB := Lib.hid hown; have IF : Hid (Fr (fun _ => False) w w2) := Lib.hid ((HF1.out.alloc _).grown hgrow (fun k hk => .inr (own_base HR1.out hk))); clear hown hgrow hat hlt2 hsame))
      go_roundw
      case rel => exact ⟨i + 1, by omega, by go_num, IF, by rw [Hnext.out]; exact IB⟩
      case measure => simp [intOf]; omega
    · obtain rfl : i = 64 := by omega
      clear hlt hi
      go_wp2
      go_ret
      exact ⟨_, rfl, KRow.of KR.out, KF.out⟩
end Go.Proofs.YtmcenocmilhekaaDoor
