/- FreqCounts: the walk of the law. -/
import Derived.Test.YtpddocehjljofaaR6
import Derived.Test.YtpddocehjljofaaSp5
import Derived.Test.YtpddocehjljofaaFk
import Derived.Deep.RegionWith
namespace Go.Proofs.Ytpddocehjljofaa
set_option linter.unusedVariables false
open Go.RowKit Go.My
attribute [local go_sem ↓] Go.wp_at_zero Go.wp_at_succ

def byteC (s : ByteArray) (i : Nat) : UInt8 := if h : i < s.size then s[i] else 0
theorem byteC_at (s : ByteArray) (i : Nat) (h : i < s.size) : byteC s i = s[i] := dif_pos h
/-- The law's own table: a struct with two rows. -/
def qabO (p : Nat) (t : Fq.T) (v1 v2 : Value) : Thing := (fun w => QabAt w p t v1 v2, tabFoot p v1 v2)
theorem qabO_ob (p : Nat) (t : Fq.T) (v1 v2 : Value) : Ob (qabO p t v1 v2) := ⟨fun h hf hs => QabAt.keep h hf hs, fun h hk => QabAt.lt h hk⟩
theorem q_none (w : World) : QabAt (w.alloc (.cells #[.slice none 0 0, .slice none 0 0] 89)) w.heap.size Fq.T.none_ (.slice none 0 0) (.slice none 0 0) :=
  ⟨heap_alloc_new w _, ⟨rfl, .inl ⟨rfl, rfl⟩⟩, ⟨rfl, .inl ⟨rfl, rfl⟩⟩⟩
theorem own_qnew {w wr : World} {l : List Thing} (h : Own w wr l) : Own w (wr.alloc (.cells #[.slice none 0 0, .slice none 0 0] 89)) (l ++ [qabO wr.heap.size Fq.T.none_ (.slice none 0 0) (.slice none 0 0)]) :=
  h.snoc ((Fr.refl _ wr).alloc _) (q_none wr) (qabO_ob _ _ _ _) (fun k hk => by rcases hk with rfl | hk | hk; exact Nat.le_refl _; cases hk; cases hk)
theorem q_put {w wr w5 : World} {l : List Thing} (h : Own w wr l) (j : Nat) {bm : Nat} {t t' : Fq.T} {s1 s2 a b : Value} (hx : l[j]? = some (qabO bm t s1 s2)) (hN : RTabN w5 wr.heap.size (.agg #[a, b]) t') (hf : Fr (fun _ => False) wr w5) :
    Own w ((w5.setCell ⟨bm, 0, none⟩ a).setCell ⟨bm, 1, none⟩ b) (l.set j (qabO bm t' a b)) := by
  obtain ⟨A1, c1, A2, c2, he, o1, o2⟩ := hN.ex
  simp only [Value.agg.injEq, Array.mk.injEq, List.cons.injEq, and_true] at he
  obtain ⟨rfl, rfl⟩ := he
  have hQ := h.get j hx
  have hb5 : w5.heap[bm]? = some (.cells #[s1, s2] 89 (0, 0)) := hf.keep hQ.blk (fun x => x)
  have hz : Fr (fun k => k = bm) w5 ((w5.setCell ⟨bm, 0, none⟩ (.slice A1 t'.s.length c1)).setCell ⟨bm, 1, none⟩ (.slice A2 t'.c.length c2)) := ((Fr.refl (fun k => k = bm) w5).setCell ⟨bm, 0, none⟩ _ (.inl rfl)).setCell ⟨bm, 1, none⟩ _ (.inl rfl)
  refine h.turn j hx ⟨((hf.mono (fun _ h => h.elim)).trans hz (fun k hk => .inl (.inl hk))), fun k hk => ?_⟩ ⟨?_, ?_, ?_⟩ (qabO_ob _ _ _ _)
  · rcases hk with hk | hk | hk
    · exact .inl (.inl hk)
    · exact .inr (own_base o1 hk)
    · exact .inr (own_base o2 hk)
  · exact block_setCell (block_setCell hb5 _ (off := 0)) _ (off := 1)
  · exact own_keep (own_low o1) hz (fun k hk e => by obtain ⟨cur, hc⟩ := own_ty o1 hk; subst e; exact ne_of_ty hc hb5 (by decide) rfl)
  · exact own_keep (own_low o2) hz (fun k hk e => by obtain ⟨cur, hc⟩ := own_ty o2 hk; subst e; exact ne_of_ty hc hb5 (by decide) rfl)
theorem QabAt.slices {w : World} {p : Nat} {t : Fq.T} {v1 v2 : Value} (h : QabAt w p t v1 v2) : ∃ A1 k1 A2 k2, v1 = .slice A1 t.s.length k1 ∧ v2 = .slice A2 t.c.length k2 := by
  obtain ⟨A1, k1, h1⟩ := own_any h.s
  obtain ⟨A2, k2, h2⟩ := own_any h.c
  exact ⟨A1, k1, A2, k2, h1, h2⟩

set_option maxHeartbeats 8000000 in
set_option maxRecDepth 100000 in
theorem freqCounts_walk (s0 : ByteArray) (w : World) :
    Calls Try.prog 9 #[.string s0] w fun r w' => r = .returned (.bool true) ∧ Fr (fun _ => False) w w' := by
  go_enter Try.func9, Try.ntmps9
  go_upto_region 3 with (go_at_call 47; refine (speaks05 w).mono ?_; rintro r w1 ⟨rfl, h1⟩; have H1 : Hid (Own w w1 []) := (Own.nil w).fresh h1; clear h1)
  go_cut [0] (fun v0 w' => ∃ t : ByteArray, t.size ≤ 600 ∧ v0 = .string t ∧ w' = w1)
  case first =>
    by_cases h3 : s0.size ≤ 600
    all_goals
      go_wp2
      go_meet
      refine ⟨_, ?_, rfl, rfl⟩
      first | omega | (rw [ByteArray.size_extract]; split <;> omega) | (rw [ByteArray.size_extract]; omega)
  case rest =>
    obtain ⟨s, hs, rfl, hwc⟩ := hcut
    rw [hwc]
    clear hwc
    obtain ⟨T, hT⟩ : ∃ T, Fq.addF (byteC s) = T := ⟨_, rfl⟩
    have hT0 : T 0 = Fq.T.none_ := by rw [← hT]; rfl
    have hT1 : ∀ i, T (i + 1) = (T i).add (byteC s i) := fun i => by rw [← hT]; rfl
    have hTk : ∀ i, (T i).Ok := fun i => by rw [← hT]; exact Fq.addF_ok _ i
    have HT0 := Lib.hid hT0
    have HT1 := Lib.hid hT1
    have HTk := Lib.hid hTk
    clear hT hT0 hT1 hTk
    have hnw := own_tnew H1.out
    have HNw := Lib.hid hnw
    clear hnw
    go_upto_region 5 with (go_at_call 48; refine HNw.out.mono ?_; rintro r w2 ⟨rfl, h⟩; have H2 := Lib.hid h; clear h)
    have h3 := own_qnew H2.out
    obtain ⟨p, hp⟩ : ∃ p, w1.heap.size = p := ⟨_, rfl⟩
    obtain ⟨bm, hbm⟩ : ∃ p, w2.heap.size = p := ⟨_, rfl⟩
    have hst : ∃ W3, w2.alloc (.cells #[.slice none 0 0, .slice none 0 0] 89) = W3 ∧ Own w W3 [tabO p (T 0) (.slice none 0 0) (.slice none 0 0), qabO bm (T 0) (.slice none 0 0) (.slice none 0 0)] := ⟨_, rfl, by rw [HT0.out, ← hp, ← hbm]; exact h3⟩
    obtain ⟨W3, hW3, hst⟩ := hst
    rw [hp]
    have Hst := Lib.hid hst
    clear h3 hp hst HNw H1 H2
    go_upto_region 6 with fail
    clear hW3 hbm
    go_wp2
    go_loopw [5] (fun v5 wr => ∃ (i : Nat) (v1 v2 s1 s2 : Value), i ≤ s.size ∧ v5 = .int .i64 (i : Int) ∧ Hid (Own w wr [tabO p (T i) v1 v2, qabO bm (T i) s1 s2])) (fun v5 _ => s.size - (intOf v5).toNat)
    case atStart => exact ⟨0, _, _, _, _, Nat.zero_le _, rfl, Hst⟩
    case round =>
      obtain ⟨i, v1, v2, s1, s2, hi, rfl, HS⟩ := hrel
      clear Hst
      by_cases hl1 : i < s.size
      · have hlI : (i : Int) < (s.size : Int) := by omega
        have hi0 : (0 : Int) ≤ (i : Int) := by omega
        have hu := byteC_at s i hl1
        have hnx := HT1.out i
        rw [hu] at hnx
        have ha := own_add HS.out 0 p _ v1 v2 rfl (HTk.out i) (s[i]'hl1)
        rw [← hnx] at ha
        have Ha := Lib.hid ha
        have Hnx := Lib.hid hnx
        clear ha hu hnx
        go_upto_region 10 with (go_at_call 49; refine Ha.out.mono ?_; rintro r w4 ⟨rfl, v3, v4, h⟩; have HS2 := Lib.hid h; clear h)
        clear Ha HS
        have hQ := HS2.out.get 1 (x := qabO bm (T i) s1 s2) rfl
        obtain ⟨A1, k1, A2, k2, e1, e2⟩ := QabAt.slices hQ
        subst e1 e2
        obtain ⟨c0, c1, f0, f1⟩ := QabAt.cells hQ
        have hra := ref_tab_add (.agg #[.slice A1 (T i).s.length k1, .slice A2 (T i).c.length k2]) (T i) (s[i]'hl1) w4.drew ⟨A1, k1, A2, k2, rfl, hQ.s, hQ.c⟩ (HTk.out i)
        rw [← Hnx.out] at hra
        have HRa := Lib.hid hra
        clear hra hQ
        go_region_with (go_at_call 50; refine HRa.out.mono ?_; rintro r w5 ⟨r5, rfl, hN, hf⟩; have hh := hN.ex; obtain ⟨D1, m1, D2, m2, rfl, o1, o2⟩ := hh; have HN := Lib.hid hN; have HF5 := Lib.hid hf; have d0 := hf.cell_ c0 (fun x => x); have d1 := hf.cell_ c1 (fun x => x); have g0 := hf.frozen_ c0 f0 (fun x => x); have g1 := hf.frozen_ c0 f1 (fun x => x); clear hN hf o1 o2)
        all_goals go_wp2
        all_goals go_roundw
        all_goals first
          | exact ⟨i + 1, v3, v4, _, _, by omega, by go_num, q_put (HS2.out.fresh (Fr.refl (fun _ => False) w4).drew) 1 rfl HN.out HF5.out⟩
          | (simp [intOf]; omega)
      · obtain rfl : i = s.size := by omega
        have hTN := HTk.out s.size
        obtain ⟨t, ht⟩ : ∃ t, T s.size = t := ⟨_, rfl⟩
        rw [ht] at HS hTN
        have hQ := HS.out.get 1 (x := qabO bm t s1 s2) rfl
        have hTb := HS.out.get 0 (x := tabO p t v1 v2) rfl
        obtain ⟨A1, k1, A2, k2, e1, e2⟩ := QabAt.slices hQ
        subst e1 e2
        have hsg := tab_signs p t v1 v2 wr hTb hTN
        obtain ⟨n, hn⟩ : ∃ n, t.s.length = n := ⟨_, rfl⟩
        have hcn := hTN.len
        rw [hn] at hsg hcn
        have hn2 : n ≤ 256 := by rw [← hn]; exact hTN.size
        have Hn := Lib.hid hn
        have Hcn := Lib.hid hcn
        have HSg := Lib.hid hsg
        have HOk := Lib.hid hTN
        rw [hn] at HS
        rw [hcn] at HS
        clear HT0 HT1 HTk hl1 hi ht hQ hTb hsg hTN hn hcn
        go_upto_region 12 with (go_at_call 51; refine HSg.out.mono ?_; rintro r w6 ⟨B1, b1, B2, b2, rfl, o1, o2, hf, _, _⟩; have HS6 := Lib.hid (HS.out.fresh hf); have O1 := Lib.hid o1; have O2 := Lib.hid o2; clear o1 o2 hf)
        clear HSg HS
        have hQ := HS6.out.get 1 (x := qabO bm t (.slice A1 n k1) (.slice A2 n k2)) rfl
        obtain ⟨c0, c1, f0, f1⟩ := QabAt.cells hQ
        obtain ⟨X, hX⟩ : ∃ X, (⟨t.s.toArray⟩ : ByteArray) = X := ⟨_, rfl⟩
        have cv1 := own_text O1.out
        have cv2 := own_text hQ.s
        rw [hX] at cv1 cv2
        have hrow := hQ.c
        have Hrow := Lib.hid hrow
        clear hX hQ hrow
        go_wp2
        go_loopw [8] (fun v8 wr2 => ∃ k : Nat, k ≤ n ∧ v8 = .int .i64 (k : Int) ∧ Hid (Fr (fun _ => False) w6 wr2)) (fun v8 _ => n - (intOf v8).toNat)
        case atStart => exact ⟨0, Nat.zero_le _, rfl, Fr.refl _ _⟩
        case round =>
          obtain ⟨k, hk, rfl, KF⟩ := hrel
          clear cv1 cv2 c0 c1 f0 f1
          by_cases hlt : k < n
          · have hki : (k : Int) < (n : Int) := by omega
            have hk0 : (0 : Int) ≤ (k : Int) := by omega
            have KS := Lib.hid (HS6.out.fresh KF.out)
            obtain ⟨g1, cc1, hv1⟩ := own_slice O1.out (by omega)
            obtain ⟨g2, cc2, hv2⟩ := own_slice O2.out (by omega)
            have hrow := Hrow.out
            rw [Hcn.out] at hrow
            obtain ⟨g3, cc3, hv3⟩ := own_slice hrow (by omega)
            injection hv1 with hv1 _ _
            injection hv2 with hv2 _ _
            injection hv3 with hv3 _ _
            subst hv1 hv2 hv3
            have hQ := KS.out.get 1 (x := qabO bm t (.slice A1 n k1) (.slice (some ⟨g3, 0, none⟩) n k2)) rfl
            obtain ⟨c0, c1, f0, f1⟩ := QabAt.cells hQ
            have x1 : wr.cell? ⟨g1, k, none⟩ = some (.int .u8 ((t.s.getD k 0).toNat : Int)) := by
              rw [World.ownsRow.cellAt (own_keep O1.out KF.out (fun _ _ x => x)) k (by omega)]
              exact bytesV_get (by rw [Hn.out]; exact hlt)
            have x2 : wr.cell? ⟨g2, k, none⟩ = some (.int .i64 ((t.c.getD k 0 : Nat) : Int)) := by
              rw [World.ownsRow.cellAt (own_keep O2.out KF.out (fun _ _ x => x)) k (by omega)]
              exact intsV_get (by rw [Hcn.out]; exact hlt)
            have x3 : wr.cell? ⟨g3, k, none⟩ = some (.int .i64 ((t.c.getD k 0 : Nat) : Int)) := by
              rw [World.ownsRow.cellAt (own_keep hrow KF.out (fun _ _ x => x)) k (by omega)]
              exact intsV_get (by rw [Hcn.out]; exact hlt)
            have hmem : t.s.idxOf (t.s.getD k 0) < t.s.length := by
              refine List.idxOf_lt_length_of_mem ?_
              rw [List.getD_eq_getElem?_getD, List.getElem?_eq_getElem (by rw [Hn.out]; exact hlt)]
              exact List.getElem_mem _
            obtain ⟨x, hx⟩ : ∃ x, t.s.getD k 0 = x := ⟨_, rfl⟩
            obtain ⟨y, hy⟩ : ∃ x, t.c.getD k 0 = x := ⟨_, rfl⟩
            rw [hx] at x1 hmem
            rw [hy] at x2 x3
            have hhas : ∀ m, Calls Try.prog 52 #[.pointer (some ⟨p, 0, none⟩), .int .u8 (x.toNat : Int)] (wr.drewN m) fun r w' => r = .returned (.bool true) ∧ w' = wr.drewN m := fun m => (tab_has p t v1 v2 x (wr.drewN m) ((KS.out.fresh ((Fr.refl (fun _ => False) wr).drewN m)).get 0 (x := tabO p t v1 v2) rfl) (by rw [Hn.out]; omega)).mono (fun r w' h => ⟨by rw [h.1]; simp [hmem], h.2.symm⟩)
            have HHas := Lib.hid hhas
            obtain ⟨z, hz⟩ : ∃ z, (x.toNat : Int) = z := ⟨_, rfl⟩
            rw [hz] at x1 HHas
            clear hhas hx hy hmem hQ hz
            go_upto_region 17 with fail
            go_quiet ((go_at_call 52; exact Calls.quiet_of_same (HHas.out _)))
            go_wp2
            go_roundw
            case rel => exact ⟨k + 1, by omega, by go_num, KF.out.drewN _⟩
            case measure => simp [intOf]; omega
          · obtain rfl : k = n := by omega
            have hfin := HS6.out.fr.trans KF.out (fun _ h => h.elim)
            have HFin := Lib.hid hfin
            clear hlt hk hfin
            go_wp2_with (first
              | (go_at_call 49; refine (tab_add_nil 1 _).mono ?_; rintro r w7 ⟨rfl, hw⟩; rw [← hw]; clear hw)
              | (go_at_call 51; refine (tab_signs_nil _).mono ?_; rintro r w7 ⟨rfl, hw⟩; rw [← hw]; clear hw)
              | (go_at_call 52; refine (tab_has_nil 1 _).mono ?_; rintro r w7 ⟨rfl, hw⟩; rw [← hw]; clear hw))
            go_ret
            exact ⟨rfl, HFin.out⟩
end Go.Proofs.Ytpddocehjljofaa
