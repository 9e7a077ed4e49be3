/- Walks of layer 07 (chain): no place left, no finder; the document's matches. -/
import Derived.Test.YtjdmkffhhlijnaaCh4
namespace Go.Proofs.Ytjdmkffhhlijnaa
set_option linter.unusedVariables false
open Go.RowKit Go.My Go.Ch

set_option maxHeartbeats 2000000 in
set_option maxRecDepth 100000 in
theorem next_end {w : World} {B p : Nat} {s : ByteArray} {win cut : Int} {i b : Nat} {v5 : Value} (h : FinB w B p s win cut i i b v5) (hi : i = s.size) :
    Calls Try.prog 10 #[.pointer (some ⟨p, 0, none⟩)] w fun e w' => e = .returned (.slice none 0 0) ∧ Fr (fun _ => False) w w' := by
  have c0 : w.cell? ⟨p, 0, none⟩ = some (.string s) := cell_of h.blk 0
  have c3 : w.cell? ⟨p, 3, none⟩ = some (.int .i64 (i : Int)) := cell_of h.blk 3
  have hiI : (s.size : Int) ≤ (i : Int) := by omega
  clear h hi
  go_enter Try.func10, Try.ntmps10
  go_upto_region 1 with fail
  go_region
  all_goals go_wp2
  all_goals go_ret
  all_goals exact ⟨rfl, (Fr.refl _ _).drew⟩
set_option maxHeartbeats 2000000 in
set_option maxRecDepth 100000 in
theorem next_nil (w : World) : Calls Try.prog 10 #[.pointer none] w fun e w' => e = .returned (.slice none 0 0) ∧ Fr (fun _ => False) w w' := by
  go_enter Try.func10, Try.ntmps10
  go_upto_region 1 with fail
  go_region
  all_goals go_wp2
  all_goals go_ret
  all_goals exact ⟨rfl, (Fr.refl _ _).drew⟩
theorem infoG : (Try.prog.info? 31).map (fun i => (i.zero, i.size, i.bytes)) = some (some (.agg #[.int .i64 0, .int .i64 0]), 2, 16) := by kernel_rfl
theorem slice_is (s : ByteArray) (a c : Nat) (h1 : a ≤ c) (h2 : c ≤ s.size) (sub : ByteArray) (hs : s.extract a c = sub) (w : World) : (Instr.slice 9 (.string s) (some (.int .i64 (a : Int))) (some (.int .i64 (c : Int))) none).run Try.prog w = .ok (.string sub) w := by
  have h := run_slice_string (P := Try.prog) w 9 s .i64 .i64 (a : Int) (c : Int) Try.underlying9 (by omega) (by omega) (by omega)
  rw [h, ← hs]
  rfl

set_option maxHeartbeats 4000000 in
set_option maxRecDepth 100000 in
theorem at_is (s : ByteArray) (hs : s.size ≤ 1000) (i : Nat) (hi : i ≤ s.size) (win cut : Int) (w : World) :
    Calls Try.prog 11 #[.string s, .int .i64 (i : Int), .int .i64 win, .int .i64 cut] w fun e w' => ∃ r, e = .returned r ∧ w'.ownsRow w.heap.size 31 2 r (foundL s.data.toList i win cut).length (foundV (foundL s.data.toList i win cut)) ∧ Fr (fun _ => False) w w' := by
  obtain ⟨l, hl⟩ : ∃ l, s.data.toList = l := ⟨_, rfl⟩
  have hsz : s.size = l.length := by rw [← hl]; simp
  obtain ⟨i0, hi0', hz0, hz1, hz2⟩ := info_parts infoG
  have Hi := Lib.hid hi0'
  have Hz0 := Lib.hid hz0
  have Hz1 := Lib.hid hz1
  have Hz2 := Lib.hid hz2
  clear hi0' hz0 hz1 hz2
  have Hl := Lib.hid hl
  have Hsz := Lib.hid hsz
  rw [hl]
  clear hl hsz
  go_enter Try.func11, Try.ntmps11
  go_wp2
  go_loopw [9, 10, 11, 12, 13] (fun v9 v10 v11 v12 _ wr => ∃ m d : Nat, Hid (d = m + 1 ∧ m ≤ lim i win) ∧ v12 = .int .i64 (d : Int) ∧ v10 = .int .i64 ((hst l i cut m).best : Nat) ∧ v11 = .int .i64 ((hst l i cut m).seen : Nat) ∧ Hid (wr.ownsRow w.heap.size 31 2 v9 (hst l i cut m).out.length (foundV (hst l i cut m).out)) ∧ Hid (Fr (fun _ => False) w wr)) (fun _ _ _ v12 _ _ => i + 2 - (intOf v12).toNat)
  case atStart => exact ⟨0, 1, ⟨rfl, Nat.zero_le _⟩, rfl, rfl, rfl, ⟨rfl, .inl ⟨rfl, rfl⟩⟩, Fr.refl _ _⟩
  case round =>
    obtain ⟨m, d, hd, rfl, rfl, rfl, KR, KF⟩ := hrel
    obtain ⟨hs0, hhs⟩ : ∃ h, hst l i cut m = h := ⟨_, rfl⟩
    have hln := hst_len l i cut m
    have hbe := hst_best l i cut m
    rw [hhs] at KR hln hbe ⊢
    have hmi : m ≤ i := by have := hd.out.2; have := (lim_le i win).1; omega
    have hdi : d ≤ i + 1 := by have := hd.out.1; omega
    have hstep : hst l i cut (m + 1) = if cand l i (m + 1) = true ∧ (hs0.seen : Int) < cut then stepH l i (m + 1) hs0 else hs0 := by
      show (if cand l i (m + 1) = true ∧ ((hst l i cut m).seen : Int) < cut then stepH l i (m + 1) (hst l i cut m) else hst l i cut m) = _
      rw [hhs]
    obtain ⟨bt, sn, ot⟩ := hs0
    dsimp only at KR hln hbe hstep ⊢
    by_cases hx : i < d ∨ win < (d : Int) ∨ ¬ ((sn : Int) < cut)
    · have hfl : foundL l i win cut = ot := by
        unfold foundL
        have hml := hd.out.2
        have hd1 := hd.out.1
        rcases hx with h | h | h
        · rw [show lim i win = m by have := (lim_le i win).1; omega, hhs]
        · rw [show lim i win = m by have := (lim_le i win).2; omega, hhs]
        · have := hst_cut l i cut m (by rw [hhs]; exact h) (lim i win - m)
          rw [show m + (lim i win - m) = lim i win by omega] at this
          rw [this, hhs]
      have HFl := Lib.hid hfl
      have hcases : i < d ∨ (d ≤ i ∧ win < (d : Int)) ∨ (d ≤ i ∧ (d : Int) ≤ win ∧ ¬ ((sn : Int) < cut)) := by
        rcases hx with h | h | h <;> omega
      clear hfl hx hhs hstep
      rcases hcases with h | ⟨h, h2⟩ | ⟨h, h2, h3⟩
      · have hxI : ¬ ((d : Int) ≤ (i : Int)) := by omega
        go_wp2
        go_ret
        first | exact ⟨_, rfl, by rw [HFl.out]; exact KR.out, KF.out⟩ | exact ⟨by rw [HFl.out]; exact KR.out, KF.out⟩
      · have hxI : (d : Int) ≤ (i : Int) := by omega
        have hw : ¬ ((d : Int) ≤ win) := by omega
        go_wp2
        go_ret
        first | exact ⟨_, rfl, by rw [HFl.out]; exact KR.out, KF.out⟩ | exact ⟨by rw [HFl.out]; exact KR.out, KF.out⟩
      · have hxI : (d : Int) ≤ (i : Int) := by omega
        go_wp2
        go_ret
        first | exact ⟨_, rfl, by rw [HFl.out]; exact KR.out, KF.out⟩ | exact ⟨by rw [HFl.out]; exact KR.out, KF.out⟩
    · have hxx : d ≤ i ∧ (d : Int) ≤ win ∧ (sn : Int) < cut := by
        refine ⟨?_, ?_, ?_⟩
        · exact Nat.not_lt.1 (fun h => hx (.inl h))
        · exact Int.not_lt.1 (fun h => hx (.inr (.inl h)))
        · exact Classical.byContradiction (fun h => hx (.inr (.inr h)))
      obtain ⟨hdi1, hdw, hsc⟩ := hxx
      have hdI : (d : Int) ≤ (i : Int) := by omega
      have hd1 : 1 ≤ d := by have := hd.out.1; omega
      have hml : d ≤ lim i win := by unfold lim; omega
      rw [← hd.out.1] at hstep
      have HML := Lib.hid hml
      obtain ⟨i3, hi3⟩ : ∃ q, i + 3 = q := ⟨_, rfl⟩
      obtain ⟨q, hq⟩ : ∃ q, i - d = q := ⟨_, rfl⟩
      obtain ⟨q3, hq3⟩ : ∃ x, q + 3 = x := ⟨_, rfl⟩
      have e1 : IntKind.i64.wrap ((i : Int) + 3) = (i3 : Int) := by rw [IntWalk.i64_in _ (by omega)]; omega
      have e2 : IntKind.i64.wrap ((i : Int) - (d : Int)) = (q : Int) := by rw [IntWalk.i64_in _ (by omega)]; omega
      have e3 : IntKind.i64.wrap ((q : Int) + 3) = (q3 : Int) := by rw [IntWalk.i64_in _ (by omega)]; omega
      clear hx hhs hml
      by_cases h3 : i3 ≤ s.size
      · have h3I : ¬ ((s.size : Int) < (i3 : Int)) := by omega
        obtain ⟨sa, hsa⟩ : ∃ sub, s.extract i i3 = sub := ⟨_, rfl⟩
        obtain ⟨sb, hsb⟩ : ∃ sub, s.extract q q3 = sub := ⟨_, rfl⟩
        have ha := fun U => slice_is s i i3 (by omega) h3 sa hsa U
        have hb := fun U => slice_is s q q3 (by omega) (by omega) sb hsb U
        have hta : sa.data.toList = tri l i := by rw [← hsa, ← hi3]; exact sub_tri s l Hl.out i (by omega)
        have htb : sb.data.toList = tri l q := by rw [← hsb, ← hq3]; exact sub_tri s l Hl.out q (by omega)
        have hcd : cand l i d = decide (tri l i = tri l q) := by
          unfold cand
          rw [hq]
          have : i + 3 ≤ l.length := by rw [← Hsz.out]; omega
          simp [this]
        by_cases ht : tri l i = tri l q
        · have hab : sa = sb := by
            cases sa; cases sb
            simp only at hta htb
            congr 1
            apply Array.ext'
            rw [hta, htb, ht]
          subst hab
          rw [hcd, if_pos ⟨by simp [ht], hsc⟩] at hstep
          have hal := matches_is s hs i d hd1 hdi1 hi wr.drew
          rw [Hl.out, hq] at hal
          have hale := alike_le l q i
          unfold stepH at hstep
          rw [hq] at hstep
          dsimp only at hstep
          obtain ⟨n, hn⟩ : ∃ n, alike l q i = n := ⟨_, rfl⟩
          rw [hn] at hstep hal hale
          have hn273 : n ≤ 273 := by unfold most at hale; omega
          have Hal := Lib.hid hal
          have KFd := Lib.hid KF.out.drew
          have KRd : Hid (wr.drew.ownsRow w.heap.size 31 2 u9 ot.length (foundV ot)) := KR.out
          clear hcd ht hta htb hsa hsb hq hq3 hi3 hd1 hal hale hn
          go_upto_region 6 with fail
          go_region
          go_upto_region 9 with (go_at_call 20; refine Hal.out.mono ?_; rintro e w2 ⟨rfl, h⟩; have R2 := Lib.hid (own_keep KRd.out h (fun _ _ x => x)); have F2 := Lib.hid (KFd.out.trans h (fun _ h => .inl h)); clear h)
          clear Hal KR KF KRd KFd
          by_cases hb : bt < n
          · have hbI : (bt : Int) < (n : Int) := by omega
            rw [if_pos hb] at hstep
            have hrl : (hst l i cut d).out.length = ot.length + 1 := by rw [hstep]; simp
            have hrv : foundV (hst l i cut d).out = foundV ot ++ [.int .i64 (n : Int), .int .i64 (d : Int)] := by rw [hstep]; exact foundV_snoc _ _ _
            have hr5 : (hst l i cut d).best = n := by rw [hstep]
            have hr7 : (hst l i cut d).seen = sn + 1 := by rw [hstep]
            have HRL := Lib.hid hrl
            have HRV := Lib.hid hrv
            have HR5 := Lib.hid hr5
            have HR7 := Lib.hid hr7
            obtain ⟨N, hN⟩ : ∃ N, ot.length = N := ⟨_, rfl⟩
            rw [hN] at R2 HRL hln
            obtain ⟨ad, cap4, hv4⟩ := own_any R2.out
            subst hv4
            clear hstep hb hrl hrv hr5 hr7 hN
            go_wp2_with (at_builtin; refine wpList_append_my _ rfl _ _ 27 rfl w.heap.size 31 i0 (.agg #[.int .i64 0, .int .i64 0]) 2 16 Try.underlying27 Hi.out Hz0.out Hz1.out Hz2.out rfl (by decide) (.slice ad N cap4) N _ (by rfl) (R2.out.alloc _) ⟨_, 0, none⟩ 1 1 [.int .i64 (n : Int), .int .i64 (d : Int)] (by rfl) (by rfl) (World.news_of_block (cs := #[.int .i64 (n : Int), .int .i64 (d : Int)]) (t := 31) (fr := (0, 0)) (heap_alloc_new _ _)) (by simp [Value.oneCell']) (by omega) (by unfold maxLen; omega) (by omega) (by have := F2.out.size; simp; omega) _ rfl ?_; intro g cap2 w3 hown hgrow hat hlt2 hsame; have IB := Lib.hid hown; have IF : Hid (Fr (fun _ => False) w w3) := Lib.hid ((F2.out.alloc _).grown hgrow (fun k hk => .inr (own_base R2.out hk))); clear hown hgrow hat hlt2 hsame)
            go_roundw
            case rel => exact ⟨d, d + 1, ⟨rfl, HML.out⟩, by go_num, by rw [HR5.out], by rw [HR7.out]; go_num, by rw [HRL.out, HRV.out]; exact IB, IF⟩
            case measure => simp [intOf]; omega
          · have hbI : ¬ ((bt : Int) < (n : Int)) := by omega
            rw [if_neg hb] at hstep
            have hr0 : (hst l i cut d).out = ot := by rw [hstep]
            have hr5 : (hst l i cut d).best = bt := by rw [hstep]
            have hr7 : (hst l i cut d).seen = sn + 1 := by rw [hstep]
            have HR0 := Lib.hid hr0
            have HR5 := Lib.hid hr5
            have HR7 := Lib.hid hr7
            clear hstep hb hr0 hr5 hr7
            go_wp2
            go_roundw
            case rel => exact ⟨d, d + 1, ⟨rfl, HML.out⟩, by go_num, by rw [HR5.out], by rw [HR7.out]; go_num, by rw [HR0.out]; exact R2, F2⟩
            case measure => simp [intOf]; omega
        · have hab : ¬ sa = sb := fun e => ht (by rw [← hta, ← htb, e])
          have habb : (sa.toList == sb.toList) = false := by
            rw [ByteArray.toList_eq, ByteArray.toList_eq, hta, htb]
            simpa using ht
          rw [hcd, if_neg (by simp [ht])] at hstep
          have HST := Lib.hid hstep
          clear hstep hcd ht hta htb hsa hsb hq hq3 hi3 hd1
          go_upto_region 6 with fail
          go_region
          go_wp2
          refine ⟨⟨d, d + 1, ⟨rfl, HML.out⟩, by go_num, by rw [HST.out], by rw [HST.out], by rw [HST.out]; exact KR.out, KF.out.drew⟩, ?_⟩
          simp [intOf]; omega
      · have h3I : (s.size : Int) < (i3 : Int) := by omega
        have hcd : cand l i d = false := by
          unfold cand
          have : ¬ i + 3 ≤ l.length := by rw [← Hsz.out]; omega
          simp [this]
        rw [hcd, if_neg (by simp)] at hstep
        have HST := Lib.hid hstep
        clear hstep hcd hq hq3 hi3 hd1
        go_upto_region 6 with fail
        go_region
        go_wp2
        refine ⟨⟨d, d + 1, ⟨rfl, HML.out⟩, by go_num, by rw [HST.out], by rw [HST.out], by rw [HST.out]; exact KR.out, KF.out.drew⟩, ?_⟩
        simp [intOf]; omega
end Go.Proofs.Ytjdmkffhhlijnaa
