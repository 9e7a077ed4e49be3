/- ContextChain: the walk of the law. -/
import Derived.Test.YtopnnbhiehljlaaDb
namespace Go.Proofs.Ytopnnbhiehljlaa
set_option linter.unusedVariables false
open Go.RowKit Go.My Go.Cx

/-- What was learnt so far. -/
structure Cc (c : C) (i : Nat) : Prop where
  ok : c.Ok
  re : c.restarts ≤ i
theorem Cc.learn {c : C} {i : Nat} (h : Cc c i) (x : UInt8) : Cc (c.learn x 0) (i + 1) := ⟨C.learn_ok h.ok x 0 (Nat.zero_le _), by have := learn_restarts c x 0; have := h.re; omega⟩

set_option maxHeartbeats 8000000 in
set_option maxRecDepth 100000 in
theorem contextChain_walk (o n : Int) (ho0 : 0 ≤ o) (ho : o < 256) (hn0 : 0 ≤ n) (hn : n < 65536) (s0 : ByteArray) (w : World) :
    Calls Try.prog 3 #[.int .u8 o, .int .u16 n, .string s0] w fun r w' => r = .returned (.bool true) ∧ Fr (fun _ => False) w w' := by
  go_enter Try.func3, Try.ntmps3
  go_upto_region 3 with (go_at_call 8; refine (speaks18 w).mono ?_; rintro r w1 ⟨rfl, h1⟩; have H1 : Hid (Own w w1 []) := (Own.nil w).fresh h1; clear h1)
  go_upto_region 4 with (go_at_call 9; refine (own_cnew H1.out o n).mono ?_; rintro r w2 ⟨p, M, rfl, h⟩; have H2 : Hid (Own w w2 [cxO p M (C.new o n)]) := Lib.hid h; clear h)
  have hc0 : Cc (C.new o n) 0 := ⟨C.Ok.new o n, Nat.le_refl _⟩
  generalize C.new o n = c0 at *
  have HC0 := Lib.hid hc0
  clear hc0 H1
  go_cut [2] (fun v2 w' => ∃ t : ByteArray, t.size ≤ 400 ∧ v2 = .string t ∧ w' = w2)
  case first =>
    by_cases h3 : s0.size ≤ 400
    all_goals
      go_wp2
      go_meet
      refine ⟨_, ?_, rfl, rfl⟩
      first | omega | (rw [ByteArray.size_extract]; split <;> omega) | (rw [ByteArray.size_extract]; omega)
  case rest =>
    obtain ⟨s, hs, rfl, hwc⟩ := hcut
    rw [hwc]
    clear hwc
    have hs4 : (s.size : Int) ≤ 400 := by omega
    go_wp2
    go_loopw [8, 9, 10] (fun v8 _ _ wr => ∃ (i : Nat) (M' : Mm) (c : C), i ≤ s.size ∧ v8 = .int .i64 (i : Int) ∧ Hid (Cc c i) ∧ Hid (Own w wr [cxO p M' c])) (fun v8 _ _ _ => s.size - (intOf v8).toNat)
    case atStart => exact ⟨0, M, c0, Nat.zero_le _, rfl, HC0, H2⟩
    case round =>
      clear HC0 H2
      obtain ⟨i, M', c, hi, rfl, KC, KO⟩ := hrel
      by_cases hl1 : i < s.size
      · have hlI : (i : Int) < (s.size : Int) := by omega
        have hi0 : (0 : Int) ≤ (i : Int) := by omega
        obtain ⟨x, hx⟩ : ∃ x, s[i]'hl1 = x := ⟨_, rfl⟩
        have hln := own_clearn (p := p) (M := M') (c := c) KO.out 0 rfl KC.out.ok (by have := KC.out.re; omega) x 0 (Nat.zero_le _) (-1) (by decide)
        have Hln := Lib.hid hln
        clear hln
        go_upto_region 9 with (go_at_call 10; refine Hln.out.mono ?_; rintro r w3 ⟨rfl, M3, h⟩; have H3 : Hid (Own w w3 [cxO p M3 (c.learn x 0)]) := Lib.hid h; clear h)
        have hcd := KC.out.learn x
        have hroot := learn_root KC.out.ok x
        clear Hln KO KC
        generalize c.learn x 0 = d at *
        have hok := hcd.ok
        have hll := fun (wr : World) (h : CxAt wr p M3 d) => cx_longest h.core hok
        have hlf := fun (wr : World) (h : CxAt wr p M3 d) => cx_left h.core hok
        have hts := fun (wr : World) (h : CxAt wr p M3 d) (k : Nat) (hk : k < d.plen) => cx_table_some h.core hok k hk
        have htn := fun (wr : World) (h : CxAt wr p M3 d) => cx_table_none h.core hok (d.plen : Int) (.inr (Int.le_refl _))
        have hpl0 := (place_txt (d.plen_has hroot.1)).1
        have hhs := fun (wr : World) (h : CxAt wr p M3 d) => tab_has _ _ _ _ x wr (h.tab (i := place d.nds (suf d.hist 0)) hpl0) (by have := (hok.good.ok _ hpl0).size; omega)
        have hin : decide ((tabAt d.nds (place d.nds (suf d.hist 0))).s.idxOf x < (tabAt d.nds (place d.nds (suf d.hist 0))).s.length) = true := by
          rw [suf_zero]
          exact decide_eq_true hroot.2
        rw [hin] at hhs
        have hml := d.plen_le
        have hmm := d.m_le
        have h16 := hok.ord16
        have hp1 := hroot.1
        obtain ⟨PL, hPL⟩ : ∃ P, d.plen = P := ⟨_, rfl⟩
        rw [hPL] at hll hts htn hml hp1
        have hP17 : PL ≤ 17 := by omega
        obtain ⟨N, hN⟩ : ∃ N : Int, (PL : Int) - 1 = N := ⟨_, rfl⟩
        rw [hN] at hll
        have hts0 := fun (wr : World) (h : CxAt wr p M3 d) => hts wr h 0 hp1
        obtain ⟨t0, ht0⟩ : ∃ t, M3.tps.getD (place d.nds (suf d.hist 0)) 0 = t := ⟨_, rfl⟩
        rw [ht0] at hts0 hhs
        have Hll := Lib.hid hll
        have Hlf := Lib.hid hlf
        have Hts := Lib.hid hts
        have Htn := Lib.hid htn
        have Hts0 := Lib.hid hts0
        have Hhs := Lib.hid hhs
        have Hcd := Lib.hid hcd
        have HN := Lib.hid hN
        have eN : IntKind.i64.wrap (N + 1) = (PL : Int) := by rw [IntWalk.i64_in _ (by omega)]; omega
        have hN0 : 0 ≤ N := by omega
        have hN17 : N ≤ 17 := by omega
        clear hcd hroot hok hll hlf hts htn hpl0 hhs hin hml hmm h16 hp1 hPL hP17 hN hts0 ht0
        go_upto_region 10 with (go_at_call 11; refine (Hll.out _ (H3.out.get (x := cxO p M3 d) 0 rfl)).mono ?_; rintro r w4 ⟨rfl, hf⟩; have H4 := Lib.hid (H3.out.fresh hf); clear hf)
        clear H3 Hll
        go_wp2
        go_loopw [10] (fun v10 wr => ∃ k : Nat, (k : Int) ≤ N + 1 ∧ v10 = .int .i64 (k : Int) ∧ Hid (Own w wr [cxO p M3 d])) (fun v10 _ => 18 - (intOf v10).toNat)
        case atStart => exact ⟨0, by omega, rfl, H4⟩
        case round =>
          clear H4
          obtain ⟨k, hk, rfl, KO⟩ := hrel
          by_cases hkn : (k : Int) ≤ N
          · have hk0 : (0 : Int) ≤ (k : Int) := by omega
            have hk17 : (k : Int) ≤ 17 := by omega
            have htk := Hts.out _ (KO.out.get (x := cxO p M3 d) 0 rfl) k (by have := HN.out; omega)
            have Htk := Lib.hid htk
            clear htk
            go_wp2_with (go_at_call 12; refine Htk.out.mono ?_; rintro r w5 ⟨rfl, hf⟩; have H5 := Lib.hid (KO.out.fresh hf); clear hf)
            go_roundw
            case rel => exact ⟨k + 1, by omega, by go_num, H5⟩
            case measure => simp [intOf]; omega
          · have htn := fun (u : InW (Fr NoF wr.drew)) => Htn.out u.to ((KO.out.fresh ((Fr.refl NoF wr).drew.trans u.ok (fun _ h => .inl h))).get (x := cxO p M3 d) 0 rfl)
            have hlf := fun (u : InW (Fr NoF wr.drew)) => Hlf.out u.to ((KO.out.fresh ((Fr.refl NoF wr).drew.trans u.ok (fun _ h => .inl h))).get (x := cxO p M3 d) 0 rfl)
            have ht0 := fun (u : InW (Fr NoF wr.drew)) => Hts0.out u.to ((KO.out.fresh ((Fr.refl NoF wr).drew.trans u.ok (fun _ h => .inl h))).get (x := cxO p M3 d) 0 rfl)
            have hhs := fun (u : InW (Fr NoF wr.drew)) => Hhs.out u.to ((KO.out.fresh ((Fr.refl NoF wr).drew.trans u.ok (fun _ h => .inl h))).get (x := cxO p M3 d) 0 rfl)
            have Jtn := Lib.hid htn
            have Jlf := Lib.hid hlf
            have Jt0 := Lib.hid ht0
            have Jhs := Lib.hid hhs
            clear htn hlf ht0 hhs hk
            go_upto_region 15 with fail
            clear hkn
            have hNn : decide (N < 0) = false := decide_eq_false (by omega)
            have hLn : decide ((d.left : Int) < 0) = false := decide_eq_false (by omega)
            refine wp_region_plan [(0, 1), (1, 1), (2, 1), (3, 1), (4, 1), (5, 1), (6, 1), (7, 1), (8, 1), (9, 1), (10, 1), (11, 1), (12, 1), (13, 1), (14, 1), (15, 1), (16, 1), (17, 1), (18, 1), (19, 1), (20, 1), (21, 1), (22, 1)] (by kernel_rfl) (by kernel_rfl) ?_
            simp only [planZ, List.getElem?_cons_zero, List.getElem?_cons_succ]
            repeat (first | (refine miz_skip (by rfl) ?_; (simp only [Act.put, List.setIfInBounds_toArray, List.set_cons_zero, List.set_cons_succ])) | (refine miz_step (by rfl) ?_; apply Exists.intro; refine ⟨fun u => ?_, ?_⟩; (focus (first | (unfold quietF; go_simp; first | done | exact ⟨rfl, rfl⟩ | (refine ⟨rfl, ?_⟩; (first | (go_at_call 13; exact Jlf.out u) | (go_at_call 14; exact (Jhs.out u).mono fun e w' ⟨h1, h2⟩ => ⟨h1, by rw [← h2]; exact Fr.refl _ _⟩) | (go_at_call 12; first | ((with_reducible show Calls _ _ #[_, Value.int .i64 0] _ _); exact Jt0.out u) | exact Jtn.out u)))))); (simp only [Act.put, List.setIfInBounds_toArray, List.set_cons_zero, List.set_cons_succ])) | (refine miz_free (by rfl) ?_; apply Exists.intro; refine ⟨?_, ?_⟩; (focus (unfold quietW; intro u; go_simp; first | done | rfl)); (simp only [Act.put, List.setIfInBounds_toArray, List.set_cons_zero, List.set_cons_succ])))
            refine miz_nil (fun w5 hf5 => ?_)
            have H5 := Lib.hid (KO.out.fresh ((Fr.refl NoF wr).drew.trans hf5 (fun _ h => .inl h)))
            clear hf5 KO Jtn Jlf Jt0 Jhs
            go_wp2
            go_roundw
            case rel => exact ⟨i + 1, M3, d, by omega, by go_num, Hcd, H5⟩
            case measure => simp [intOf]; omega
      · obtain rfl : i = s.size := by omega
        have HF := Lib.hid KO.out.fr
        clear KC KO hl1 hi
        go_wp2
        go_ret
        exact ⟨rfl, HF.out⟩
end Go.Proofs.Ytopnnbhiehljlaa
