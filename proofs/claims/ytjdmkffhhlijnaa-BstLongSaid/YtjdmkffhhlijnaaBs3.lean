/- Walks of layer 08 (bst): the next place's matches; the document's. -/
import Derived.Test.YtjdmkffhhlijnaaBs2
namespace Go.Proofs.Ytjdmkffhhlijnaa
set_option linter.unusedVariables false
open Go.RowKit Go.My Go.Ch Go.Bs

set_option maxHeartbeats 4000000 in
set_option maxRecDepth 100000 in
theorem bsnext_is {w : World} {B p gl gm : Nat} {s : ByteArray} {win : Int} {i : Nat} {top : Int} {L M : Nat → Int} (h : FinT w B p gl gm s win i top L M) (hs : s.size ≤ 1000) (hi : i < s.size) (hr : Rep L M (tree s.data.toList win i) top) :
    Calls Try.prog 15 #[.pointer (some ⟨p, 0, none⟩)] w fun e w' => ∃ r L' M', e = .returned r ∧ w'.ownsRow w.heap.size 32 2 r (allH s.data.toList i (lim i win)).2.length (foundV (allH s.data.toList i (lim i win)).2) ∧
      FinT w' B p gl gm s win (i + 1) (i : Int) L' M' ∧ Rep L' M' (tree s.data.toList win (i + 1)) (i : Int) ∧ Fr (fun k => B ≤ k) w w' := by
  have c0 : w.cell? ⟨p, 0, none⟩ = some (.string s) := cell_of h.blk 0
  have c2 : w.cell? ⟨p, 2, none⟩ = some (.int .i64 (i : Int)) := cell_of h.blk 2
  have f2 := free_of h.blk 2
  have hiI : ¬ ((s.size : Int) ≤ (i : Int)) := by omega
  have hpl := h.lt.1
  have H := Lib.hid h
  have HR := Lib.hid hr
  obtain ⟨A, hA⟩ : ∃ A, allH s.data.toList i (lim i win) = A := ⟨_, rfl⟩
  rw [hA]
  have HA := Lib.hid hA
  clear h hr hA
  go_enter Try.func15, Try.ntmps15
  go_upto_region 1 with fail
  go_region
  all_goals go_upto_region 7 with fail
  clear c0 c2 f2 hiI
  obtain ⟨N, hN⟩ : ∃ N, w.heap.size = N := ⟨_, rfl⟩
  have hV : ∃ V, ((((w.setCell ⟨p, 2, none⟩ (.int .i64 ((i : Int) + 1))).alloc (.cells #[.int .i64 (i : Int)] 3)).alloc (.cells #[.slice none 0 0] 25)).alloc (.cells #[.int .i64 1] 3)).drew = V ∧
      Fr (fun k => k = p) w V ∧ FinT V B p gl gm s win (i + 1) top L M ∧ Met V N (N + 2) (N + 1) N i (1, []) (.slice none 0 0) := by
    obtain ⟨w1, hw1⟩ : ∃ w1, w.setCell ⟨p, 2, none⟩ (.int .i64 ((i : Int) + 1)) = w1 := ⟨_, rfl⟩
    have hF1 : Fr (fun k => k = p) w w1 := by rw [← hw1]; exact (Fr.refl _ w).setCell _ _ (.inl rfl)
    have hA1 : FinT w1 B p gl gm s win (i + 1) top L M := by rw [← hw1]; exact H.out.move (i + 1)
    have hs1 : w1.heap.size = N := by rw [← hw1, ← hN]; simp [World.setCell]
    rw [hw1]
    have b1 := heap_alloc_new w1 (.cells #[.int .i64 (i : Int)] 3)
    have b2 := heap_alloc_new (w1.alloc (.cells #[.int .i64 (i : Int)] 3)) (.cells #[.slice none 0 0] 25)
    have b3 := heap_alloc_new ((w1.alloc (.cells #[.int .i64 (i : Int)] 3)).alloc (.cells #[.slice none 0 0] 25)) (.cells #[.int .i64 1] 3)
    rw [hs1] at b1
    rw [show (w1.alloc (.cells #[.int .i64 (i : Int)] 3)).heap.size = N + 1 by simp [hs1]] at b2
    rw [show ((w1.alloc (.cells #[.int .i64 (i : Int)] 3)).alloc (.cells #[.slice none 0 0] 25)).heap.size = N + 2 by simp [hs1]] at b3
    exact ⟨_, rfl, ((((hF1).alloc _).alloc _).alloc _).drew, hA1.fresh ((((Fr.refl _ w1).alloc _).alloc _).alloc _).drew, ⟨b3, block_alloc b2, block_alloc (block_alloc b1), ⟨rfl, .inl ⟨rfl, rfl⟩⟩, by omega, by omega, by omega, by omega⟩⟩
  obtain ⟨V, hVe, hVF, hVA, hVM⟩ := hV
  have hlt := H.out.lt
  rw [hN] at hlt
  have hg := hang_is hVA hs hi HR.out hVM hlt
  rw [hVe]
  rw [HA.out] at hg
  have HG := Lib.hid hg
  have HVF := Lib.hid hVF
  have HN := Lib.hid hN
  have HLt := Lib.hid hlt
  have q3 : V.cell? ⟨N, 0, none⟩ = some (.int .i64 (i : Int)) := cell_of hVM.ci 0
  rw [hN]
  clear hg hVF hVA hVM hVe hN hlt hpl
  go_wp2_with (go_at_call 21; refine HG.out.mono ?_; rintro e w1 ⟨rfl, ⟨L', M', h1, h2⟩, ⟨v', h3⟩, h4⟩; have FA := Lib.hid h1; have FR := Lib.hid h2; have FM := Lib.hid h3; have FF := Lib.hid h4; have q4 : w1.cell? ⟨N + 1, 0, none⟩ = some v' := cell_of h3.co 0; clear h1 h2 h3 h4)
  go_ret
  refine ⟨_, L', M', rfl, by rw [HN.out]; exact FM.out.row, FA.out, FR.out, ?_⟩
  refine (HVF.out.mono (fun k hk => .inl ?_)).trans FF.out (fun k hk => ?_)
  · have := H.out.hp; omega
  · rcases hk with h | h | h | h
    · subst h; exact .inl H.out.hp
    · subst h; exact .inl H.out.hl
    · subst h; exact .inl H.out.hm
    · exact .inr (by rw [HN.out]; exact h)
set_option maxHeartbeats 2000000 in
set_option maxRecDepth 100000 in
theorem bsnext_end {w : World} {B p gl gm : Nat} {s : ByteArray} {win : Int} {i : Nat} {top : Int} {L M : Nat → Int} (h : FinT w B p gl gm s win i top L M) (hi : i = s.size) :
    Calls Try.prog 15 #[.pointer (some ⟨p, 0, none⟩)] w fun e w' => e = .returned (.slice none 0 0) ∧ Fr (fun _ => False) w w' := by
  have c0 : w.cell? ⟨p, 0, none⟩ = some (.string s) := cell_of h.blk 0
  have c2 : w.cell? ⟨p, 2, none⟩ = some (.int .i64 (i : Int)) := cell_of h.blk 2
  have hiI : (s.size : Int) ≤ (i : Int) := by omega
  clear h hi
  go_enter Try.func15, Try.ntmps15
  go_upto_region 1 with fail
  go_region
  all_goals go_wp2
  all_goals go_ret
  all_goals exact ⟨rfl, (Fr.refl _ _).drew⟩
set_option maxHeartbeats 2000000 in
set_option maxRecDepth 100000 in
theorem bsnext_nil (w : World) : Calls Try.prog 15 #[.pointer none] w fun e w' => e = .returned (.slice none 0 0) ∧ Fr (fun _ => False) w w' := by
  go_enter Try.func15, Try.ntmps15
  go_upto_region 1 with fail
  go_region
  all_goals go_wp2
  all_goals go_ret
  all_goals exact ⟨rfl, (Fr.refl _ _).drew⟩
theorem allH_small (l : List UInt8) (i : Nat) : ∀ m, (allH l i m).1 ≤ 273 ∧ (allH l i m).2.length + 1 ≤ (allH l i m).1 := by
  intro m
  induction m with
  | zero => exact ⟨Nat.le_of_ble_eq_true rfl, Nat.le_refl 1⟩
  | succ m ih => exact stepA_small l i (m + 1) _ ih.1 ih.2

set_option maxHeartbeats 4000000 in
set_option maxRecDepth 100000 in
theorem all_is (s : ByteArray) (hs : s.size ≤ 1000) (i : Nat) (hi : i ≤ s.size) (win : Int) (w : World) :
    Calls Try.prog 16 #[.string s, .int .i64 (i : Int), .int .i64 win] w fun e w' => ∃ r, e = .returned r ∧ w'.ownsRow w.heap.size 31 2 r (allH s.data.toList i (lim i win)).2.length (foundV (allH s.data.toList i (lim i win)).2) ∧ Fr (fun _ => False) w w' := by
  obtain ⟨l, hl⟩ : ∃ l, s.data.toList = l := ⟨_, rfl⟩
  obtain ⟨i0, hi0', hz0, hz1, hz2⟩ := info_parts infoG
  have Hi := Lib.hid hi0'
  have Hz0 := Lib.hid hz0
  have Hz1 := Lib.hid hz1
  have Hz2 := Lib.hid hz2
  clear hi0' hz0 hz1 hz2
  have Hl := Lib.hid hl
  rw [hl]
  clear hl
  go_enter Try.func16, Try.ntmps16
  go_wp2
  go_loopw [7, 8, 9, 10] (fun v7 v8 v9 _ wr => ∃ m d : Nat, Hid (d = m + 1 ∧ m ≤ lim i win) ∧ v9 = .int .i64 (d : Int) ∧ v8 = .int .i64 ((allH l i m).1 : Nat) ∧ Hid (wr.ownsRow w.heap.size 31 2 v7 (allH l i m).2.length (foundV (allH l i m).2)) ∧ Hid (Fr (fun _ => False) w wr)) (fun _ _ v9 _ _ => i + 2 - (intOf v9).toNat)
  case atStart => exact ⟨0, 1, ⟨rfl, Nat.zero_le _⟩, rfl, rfl, ⟨rfl, .inl ⟨rfl, rfl⟩⟩, Fr.refl _ _⟩
  case round =>
    obtain ⟨m, d, hd, rfl, rfl, KR, KF⟩ := hrel
    obtain ⟨hs0, hhs⟩ : ∃ h, allH l i m = h := ⟨_, rfl⟩
    have hsm := allH_small l i m
    rw [hhs] at KR hsm ⊢
    have hmi : m ≤ i := by have := hd.out.2; have := (lim_le i win).1; omega
    have hdi : d ≤ i + 1 := by have := hd.out.1; omega
    have hstep : allH l i (m + 1) = stepA l i (m + 1) hs0 := by
      show stepA l i (m + 1) (allH l i m) = _
      rw [hhs]
    obtain ⟨bt, ot⟩ := hs0
    dsimp only at KR hsm hstep ⊢
    by_cases hx : i < d ∨ win < (d : Int)
    · have hfl : allH l i (lim i win) = (bt, ot) := by
        have hml := hd.out.2
        have hd1 := hd.out.1
        rcases hx with h | h
        · rw [show lim i win = m by have := (lim_le i win).1; omega, hhs]
        · rw [show lim i win = m by have := (lim_le i win).2; omega, hhs]
      have HFl := Lib.hid hfl
      have hcases : i < d ∨ (d ≤ i ∧ win < (d : Int)) := by
        rcases hx with h | h <;> omega
      clear hfl hx hhs hstep
      rcases hcases with h | ⟨h, h2⟩
      · have hxI : ¬ ((d : Int) ≤ (i : Int)) := by omega
        go_wp2
        go_ret
        first | exact ⟨_, rfl, by rw [HFl.out]; exact KR.out, KF.out⟩ | exact ⟨by rw [HFl.out]; exact KR.out, KF.out⟩
      · have hxI : (d : Int) ≤ (i : Int) := by omega
        have hw : ¬ ((d : Int) ≤ win) := by omega
        go_wp2
        go_ret
        first | exact ⟨_, rfl, by rw [HFl.out]; exact KR.out, KF.out⟩ | exact ⟨by rw [HFl.out]; exact KR.out, KF.out⟩
    · have hxx : d ≤ i ∧ (d : Int) ≤ win := ⟨Nat.not_lt.1 (fun h => hx (.inl h)), Int.not_lt.1 (fun h => hx (.inr h))⟩
      obtain ⟨hdi1, hdw⟩ := hxx
      have hdI : (d : Int) ≤ (i : Int) := by omega
      have hd1 : 1 ≤ d := by have := hd.out.1; omega
      have hml : d ≤ lim i win := by unfold lim; omega
      rw [← hd.out.1] at hstep
      have HML := Lib.hid hml
      obtain ⟨q, hq⟩ : ∃ q, i - d = q := ⟨_, rfl⟩
      have hal := matches_is s hs i d hd1 hdi1 hi wr
      rw [Hl.out, hq] at hal
      have hale := alike_le l q i
      unfold stepA at hstep
      rw [hq] at hstep
      dsimp only at hstep
      obtain ⟨n, hn⟩ : ∃ n, alike l q i = n := ⟨_, rfl⟩
      rw [hn] at hstep hal hale
      have hn273 : n ≤ 273 := by unfold most at hale; omega
      have Hal := Lib.hid hal
      clear hx hhs hml hq hal hale hn
      go_upto_region 7 with (go_at_call 20; refine Hal.out.mono ?_; rintro e w2 ⟨rfl, h⟩; have R2 := Lib.hid (own_keep KR.out h (fun _ _ x => x)); have F2 := Lib.hid (KF.out.trans h (fun _ h => .inl h)); clear h)
      clear Hal KR KF
      by_cases hb : bt < n
      · have hbI : (bt : Int) < (n : Int) := by omega
        rw [if_pos hb] at hstep
        have hrl : (allH l i d).2.length = ot.length + 1 := by rw [hstep]; simp
        have hrv : foundV (allH l i d).2 = foundV ot ++ [.int .i64 (n : Int), .int .i64 (d : Int)] := by rw [hstep]; exact foundV_snoc _ _ _
        have hr5 : (allH l i d).1 = n := by rw [hstep]
        have HRL := Lib.hid hrl
        have HRV := Lib.hid hrv
        have HR5 := Lib.hid hr5
        obtain ⟨N, hN⟩ : ∃ N, ot.length = N := ⟨_, rfl⟩
        rw [hN] at R2 HRL hsm
        obtain ⟨ad, cap4, hv4⟩ := own_any R2.out
        subst hv4
        clear hstep hb hrl hrv hr5 hN
        go_wp2_with (at_builtin; refine wpList_append_my _ rfl _ _ 27 rfl w.heap.size 31 i0 (.agg #[.int .i64 0, .int .i64 0]) 2 16 Try.underlying27 Hi.out Hz0.out Hz1.out Hz2.out rfl (by decide) (.slice ad N cap4) N _ (by rfl) (R2.out.alloc _) ⟨_, 0, none⟩ 1 1 [.int .i64 (n : Int), .int .i64 (d : Int)] (by rfl) (by rfl) (World.news_of_block (cs := #[.int .i64 (n : Int), .int .i64 (d : Int)]) (t := 31) (fr := (0, 0)) (heap_alloc_new _ _)) (by simp [Value.oneCell']) (by omega) (by unfold maxLen; omega) (by omega) (by have := F2.out.size; simp; omega) _ rfl ?_; intro g cap2 w3 hown hgrow hat hlt2 hsame; have IB := Lib.hid hown; have IF : Hid (Fr (fun _ => False) w w3) := Lib.hid ((F2.out.alloc _).grown hgrow (fun k hk => .inr (own_base R2.out hk))); clear hown hgrow hat hlt2 hsame)
        go_roundw
        case rel => exact ⟨d, d + 1, ⟨rfl, HML.out⟩, by go_num, by rw [HR5.out], by rw [HRL.out, HRV.out]; exact IB, IF⟩
        case measure => simp [intOf]; omega
      · have hbI : ¬ ((bt : Int) < (n : Int)) := by omega
        rw [if_neg hb] at hstep
        have hr0 : (allH l i d).2 = ot := by rw [hstep]
        have hr5 : (allH l i d).1 = bt := by rw [hstep]
        have HR0 := Lib.hid hr0
        have HR5 := Lib.hid hr5
        clear hstep hb hr0 hr5
        go_wp2
        go_roundw
        case rel => exact ⟨d, d + 1, ⟨rfl, HML.out⟩, by go_num, by rw [HR5.out], by rw [HR0.out]; exact R2, F2⟩
        case measure => simp [intOf]; omega
end Go.Proofs.Ytjdmkffhhlijnaa
