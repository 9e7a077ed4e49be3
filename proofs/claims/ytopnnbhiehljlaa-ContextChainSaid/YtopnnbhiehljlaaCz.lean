/- Layer 18 (context): Learn, the walk. -/
import Derived.Test.YtopnnbhiehljlaaCy
namespace Go.Proofs.Ytopnnbhiehljlaa
set_option linter.unusedVariables false
open Go.RowKit Go.My Go.Cx

set_option maxHeartbeats 16000000 in
set_option maxRecDepth 100000 in
theorem cx_learn {w : World} {p : Nat} {M : Mm} {c : C} (h : CxAt w p M c) (hOk : c.Ok) (hr : c.restarts < 1000000000) (x : UInt8) (F : Nat) (hF : F ≤ c.plen) (fi : Int) (hfi : max fi 0 = (F : Int)) :
    Calls Try.prog 10 #[.pointer (some ⟨p, 0, none⟩), .int .u8 (x.toNat : Int), .int .i64 fi] w fun e w' => e = .returned (.tuple #[]) ∧ ∃ M', CxAt w' p M' (c.learn x F) ∧ Step w w' (foot (cxL p M c)) (foot (cxL p M' (c.learn x F))) := by
  have hp := cx_path h.core hOk
  have hof := fun (w' : World) (v : Value) => CxS.of_path (w' := w') (pv := v) h
  have hml := c.plen_le
  have hbeg1 := Begin.same (x := x) hOk hF
  have hbeg2 := Begin.forgot (x := x) (F := F) hOk
  obtain ⟨L0, hL0⟩ : ∃ L, cxL p M c = L := ⟨_, rfl⟩
  rw [hL0] at hof ⊢
  obtain ⟨NE, hNE⟩ : ∃ n, needs c.nds c.hist x F (c.m + 1 - F) = n := ⟨_, rfl⟩
  obtain ⟨LF, hLF⟩ : ∃ n, c.left = n := ⟨_, rfl⟩
  rw [hNE, hLF] at hbeg1 hbeg2
  have Hp := Lib.hid hp
  have Hof := Lib.hid hof
  have Hbeg1 := Lib.hid hbeg1
  have Hbeg2 := Lib.hid hbeg2
  have HNE := Lib.hid hNE
  have HLF := Lib.hid hLF
  have Hml : Hid (F ≤ c.m + 1) := Lib.hid (by omega)
  have HOk := Lib.hid hOk
  have Hr := Lib.hid hr
  have hfi2 : (if fi < 0 then 0 else fi) = (F : Int) := by split <;> omega
  clear hfi h hOk hr hF hp hof hml hbeg1 hbeg2 hL0 hNE hLF
  go_enter Try.func10, Try.ntmps10
  go_upto_if 23 with (first
    | (go_at_call 27; refine Hp.out.mono ?_; rintro e w1 ⟨v, rfl, hr1, hf1⟩; have HS1 := Lib.hid (Hof.out _ _ hr1 hf1); clear hr1 hf1)
    | (go_at_call 28; refine (cx_needs HS1.out.p.all HOk.out 0 _ HS1.out.p.row x F Hml.out).mono ?_; rintro e w2 ⟨rfl, hf2⟩; have HS2 := Lib.hid (HS1.out.fresh hf2); clear hf2; rw [HNE.out])
    | (go_at_call 13; refine (cx_left HS2.out.p.all.core HOk.out).mono ?_; rintro e w3 ⟨rfl, hf3⟩; have HS3 := Lib.hid (HS2.out.fresh hf3); clear hf3; rw [HLF.out]))
  clear hfi2 Hp Hof HS1 HS2
  go_cut [2, 6] (fun v2 v6 wx => ∃ (d : C) (M2 : Mm) (G : Nat), v2 = .int .i64 (G : Int) ∧ Hid (Begin c d x F G) ∧ Hid (CxS w L0 wx p M2 d v6))
  case first =>
    by_cases hlt : LF < NE
    · have HB := Lib.hid (Hbeg2.out hlt)
      go_wp2_with (go_at_call 29; refine (cx_forget HS3.out.p.all Hr.out).mono ?_; rintro e w4 ⟨rfl, h1, h2⟩; have HS4 := Lib.hid (HS3.out.forgot h1 h2); clear h1 h2)
      go_meet
      exact ⟨c.forget, M.none_, 0, rfl, HB, HS4⟩
    · have HB := Lib.hid (Hbeg1.out hlt)
      go_wp2
      go_meet
      exact ⟨c, M, F, rfl, HB, HS3⟩
  case rest =>
    obtain ⟨d, M2, G, rfl, HB, HC⟩ := hcut
    have hlearn := HB.out.is
    clear HS3 Hbeg1 Hbeg2 HNE HLF Hml HOk Hr
    have hdok := HB.out.ok
    have h16 := hdok.ord16
    have hlo := hdok.hl
    have hml := d.plen_le
    have hmm := d.m_le
    have hG := HB.out.le
    have hpok := fun j (hj : G + j ≤ d.m + 1) => C.part_ok HB.out.ok x G HB.out.le HB.out.fits j hj
    have hppl := fun j (hj : G + j ≤ d.m + 1) => C.part_plen HB.out.ok x G HB.out.le HB.out.fits j hj
    have hmd : (if d.hist.length < d.ord then (d.hist.length : Int) else (d.ord : Int)) = (d.m : Int) := by unfold C.m; split <;> omega
    have hend := C.part_end d x G
    have hpm : ∀ j, (d.part x G j).m = d.m := fun _ => rfl
    obtain ⟨m, hm⟩ : ∃ m, d.m = m := ⟨_, rfl⟩
    rw [hm] at hml hmm hpok hppl hmd hend
    obtain ⟨HL, hHL⟩ : ∃ L, d.hist.length = L := ⟨_, rfl⟩
    rw [hHL] at hmm hlo hmd
    have hGm : G ≤ m + 1 := by omega
    have hm16 : m ≤ 16 := by omega
    have hmI : (m : Int) ≤ 16 := by omega
    have Hlearn := Lib.hid hlearn
    have Hpok := Lib.hid hpok
    have Hppl := Lib.hid hppl
    have Hend := Lib.hid hend
    have Hm := Lib.hid hm
    have HHL := Lib.hid hHL
    have Hlo := Lib.hid hlo
    have H16 := Lib.hid h16
    clear hlearn hdok h16 hlo hml hmm hG hpok hppl hend hm hHL hpm HB
    go_upto_region 7 with fail
    go_loopw [6, 7, 8] (fun v6 v7 _ wr => ∃ (j : Nat) (M' : Mm), G + j ≤ m + 1 ∧ v7 = .int .i64 ((G + j : Nat) : Int) ∧ Hid (CxS w L0 wr p M' (d.part x G j) v6)) (fun _ v7 _ _ => m + 1 - (intOf v7).toNat)
    case atStart => exact ⟨0, M2, hGm, rfl, HC⟩
    case round =>
      clear HC
      obtain ⟨j, M', hj, rfl, KC⟩ := hrel
      obtain ⟨k, hk⟩ : ∃ k, G + j = k := ⟨_, rfl⟩
      have Hk := Lib.hid hk
      rw [hk] at hj ⊢
      clear hk
      obtain ⟨q0, -, -, -, -, q5, -⟩ := KC.out.p.all.core.cells
      obtain ⟨av, capv, hav⟩ := KC.out.p.all.core.hist.any HL HHL.out
      rw [hav] at q5
      have c0 : ∀ u : InW (Fr NoF wr.drew), u.to.cell? ⟨p, 0, none⟩ = some (.int .i64 (d.ord : Int)) := fun u => u.ok.cell_ (w := wr.drew) q0 (fun x => x)
      have c5 : ∀ u : InW (Fr NoF wr.drew), u.to.cell? ⟨p, 5, none⟩ = some (.slice av HL capv) := fun u => u.ok.cell_ (w := wr.drew) q5 (fun x => x)
      clear q0 q5 hav
      go_upto_region 7 with fail
      refine wp_region_plan [(0, 1), (1, 1), (2, 1), (3, 1), (4, 1), (5, 1), (6, 1), (7, 1), (8, 1), (9, 1), (10, 1), (11, 1)] (by kernel_rfl) (by kernel_rfl) ?_
      simp only [planZ, List.getElem?_cons_zero, List.getElem?_cons_succ]
      by_cases hkm : k ≤ m
      · have hI : (k : Int) ≤ (m : Int) := by omega
        have hk0 : (0 : Int) ≤ (k : Int) := by omega
        repeat (first | (refine miz_skip (by rfl) ?_; (simp only [Act.put, List.setIfInBounds_toArray, List.set_cons_zero, List.set_cons_succ])) | (refine miz_step (by rfl) ?_; apply Exists.intro; refine ⟨fun u => ?_, ?_⟩; (focus (first | (unfold quietF; go_simp; first | done | exact ⟨rfl, rfl⟩))); (simp only [Act.put, List.setIfInBounds_toArray, List.set_cons_zero, List.set_cons_succ])) | (refine miz_free (by rfl) ?_; apply Exists.intro; refine ⟨?_, ?_⟩; (focus (unfold quietW; intro u; go_simp; first | done | rfl)); (simp only [Act.put, List.setIfInBounds_toArray, List.set_cons_zero, List.set_cons_succ])))
        refine miz_nil (fun w2 hf2 => ?_)
        have HS2 := Lib.hid (KC.out.fresh ((Fr.refl NoF wr).drew.trans hf2 (fun _ h => .inl h)))
        clear c0 c5 hf2 KC
        have hok := Hpok.out j (by have := Hk.out; omega)
        have hok2 := Hpok.out (j + 1) (by have := Hk.out; omega)
        have hpl := Hppl.out j (by have := Hk.out; omega)
        rw [Hk.out] at hpl
        have hkm2 : k ≤ (d.part x G j).m := by show k ≤ d.m; rw [Hm.out]; exact hkm
        have hpml : (d.part x G j).plen ≤ m + 1 := by
          have := (d.part x G j).plen_le
          have e : (d.part x G j).m = m := Hm.out
          omega
        have hthere := fun h => Grown.there (c := d) (x := x) (F := G) (j := j) hok Hk.out h
        have hnew := fun h => Grown.new (c := d) (x := x) (F := G) (j := j) hok hok2 Hk.out (by rw [Hm.out]; exact hkm) h
        have hrow := HS2.out.p.row
        obtain ⟨ap, cp, hpv⟩ := own_any hrow
        have Hrow := Lib.hid hrow
        have Hpv := Lib.hid hpv
        obtain ⟨PL, hPL⟩ : ∃ P, (d.part x G j).plen = P := ⟨_, rfl⟩
        rw [hPL] at hpv hpl hthere hnew hpml
        have HPL := Lib.hid hPL
        have Hok := Lib.hid hok
        have Hthere := Lib.hid hthere
        have Hnew := Lib.hid hnew
        have Hkm2 := Lib.hid hkm2
        have hPb : (PL : Int) ≤ 17 := by omega
        subst hpv
        clear hok hok2 hkm2 hthere hnew hrow hPL Hrow Hpv
        go_upto_if 44 with fail
        go_cut [6] from 27 to 73 (fun v6 wx => ∃ (e : C) (M3 : Mm), Hid (Grown d e x G j k) ∧ Hid (CxS w L0 wx p M3 e v6))
        case first =>
          by_cases hkp : k < PL
          · have hkI : (k : Int) < (PL : Int) := by omega
            have HG := Lib.hid (Hthere.out hkp)
            go_wp2
            go_meet
            exact ⟨_, M', HG, HS2⟩
          · obtain rfl : k = PL := by omega
            obtain ⟨hroom, hG⟩ := Hnew.out rfl
            have HG := Lib.hid hG
            have Hroom := Lib.hid hroom
            clear hG hroom
            go_wp2_with (go_at_call 30; refine (cx_grow HS2.out.p Hok.out (by rw [HPL.out]; exact Hkm2.out) Hroom.out).mono ?_; rintro e w3 ⟨pv', M3, rfl, h1, h2⟩; have HS3 := Lib.hid (HS2.out.then h1 h2); clear h1 h2)
            go_meet
            exact ⟨_, M3, HG, Lib.hid (by have h3 := HS3.out; rw [HPL.out] at h3; exact h3)⟩
        case rest =>
          obtain ⟨e, M3, HG, KS⟩ := hcut
          clear HS2 Hok Hthere Hnew Hkm2 HPL
          have hnext := HG.out.next
          have hlt := HG.out.lt
          have heok := HG.out.ok
          have hhas := e.plen_has hlt
          have hadd := fun (w' : World) (v1 v2 : Value) (s : Nat) => KS.out.added hlt x (w' := w') (v1 := v1) (v2 := v2) (s := s)
          have hsum := sums_setA hhas x
          have hpl2 := (place_txt hhas).1
          have hid := ids_get e e.plen k hlt
          rw [idOf_place hhas] at hid
          obtain ⟨i, hi⟩ : ∃ i, place e.nds (suf e.hist k) = i := ⟨_, rfl⟩
          rw [hi] at hsum hpl2 hid hadd
          have htok := heok.good.ok i hpl2
          have hsb : sums e.nds ≤ 1048576 := by have h1 := heok.room; have h2 := heok.hi; unfold used at h1; omega
          have hrow := KS.out.p.row
          obtain ⟨g, cap, hpv⟩ := own_slice hrow (by omega)
          subst hpv
          have hcell := row_at hrow hlt
          rw [hid] at hcell
          have hci : ((i + 1 : Nat) : Int) = (i : Int) + 1 := by omega
          rw [hci] at hcell
          have hat := fun (u : InW (Fr NoF wc.drew)) => (KS.out.p.all.core.keep ((Fr.refl NoF wc).drew.trans u.ok (fun _ h => .inl h)) (fun _ _ x => x)).at_ hpl2
          have q1 : ∀ u : InW (Fr NoF wc.drew), u.to.cell? ⟨p, 1, none⟩ = some (.pointer (some ⟨M3.q, 0, none⟩)) := fun u => u.ok.cell_ (w := wc.drew) KS.out.p.all.core.cells.2.1 (fun x => x)
          have qk : ∀ u : InW (Fr NoF wc.drew), u.to.cell? ⟨g, k, none⟩ = some (.int .i64 ((i : Int) + 1)) := fun u => u.ok.cell_ (w := wc.drew) hcell (fun x => x)
          have qt : ∀ u : InW (Fr NoF wc.drew), u.to.cell? ⟨M3.bs.getD i 0, 3, none⟩ = some (.pointer (some ⟨M3.tps.getD i 0, 0, none⟩)) := fun u => u.ok.cell_ (w := wc.drew) (KS.out.p.all.core.node hpl2).2.2.2 (fun x => x)
          have hPLe : e.plen ≤ e.m + 1 := e.plen_le
          have hPL17 : e.plen ≤ 17 := by have := e.m_le; have := heok.ord16; omega
          have hkI : (k : Int) < (e.plen : Int) := by omega
          have hPb2 : (e.plen : Int) ≤ 17 := by omega
          have Hat := Lib.hid hat
          have Hadd := Lib.hid hadd
          have Hsum := Lib.hid hsum
          have Htok := Lib.hid htok
          have Hpl2 := Lib.hid hpl2
          have Hnext := Lib.hid hnext
          have Hsb := Lib.hid hsb
          obtain ⟨bi, hbi⟩ : ∃ b, M3.bs.getD i 0 = b := ⟨_, rfl⟩
          obtain ⟨ti, hti⟩ : ∃ b, M3.tps.getD i 0 = b := ⟨_, rfl⟩
          rw [hbi, hti] at qt
          rw [hbi] at Hat
          have Hti := Lib.hid hti
          clear hnext heok hhas hadd hsum hpl2 hid hi htok hsb hrow hcell hci hat hPLe hbi hti HG hlt hPL17
          go_upto_region 11 with fail
          refine wp_region_plan [(0, 1), (1, 1), (2, 1), (3, 1), (4, 1), (5, 1), (6, 1), (7, 1), (8, 1), (9, 1), (10, 1), (11, 1), (12, 1)] (by kernel_rfl) (by kernel_rfl) ?_
          simp only [planZ, List.getElem?_cons_zero, List.getElem?_cons_succ]
          repeat (first | (refine miz_skip (by rfl) ?_; (simp only [Act.put, List.setIfInBounds_toArray, List.set_cons_zero, List.set_cons_succ])) | (refine miz_step (by rfl) ?_; apply Exists.intro; refine ⟨fun u => ?_, ?_⟩; (focus (first | (unfold quietF; go_simp; first | done | exact ⟨rfl, rfl⟩ | (refine ⟨rfl, ?_⟩; (go_at_call 31; exact (Hat.out u).mono fun e w' ⟨h1, h2⟩ => ⟨h1, by rw [← h2]; exact Fr.refl _ _⟩))))); (simp only [Act.put, List.setIfInBounds_toArray, List.set_cons_zero, List.set_cons_succ])) | (refine miz_free (by rfl) ?_; apply Exists.intro; refine ⟨?_, ?_⟩; (focus (unfold quietW; intro u; go_simp; first | done | rfl)); (simp only [Act.put, List.setIfInBounds_toArray, List.set_cons_zero, List.set_cons_succ])))
          refine miz_nil (fun w3 hf3 => ?_)
          have hS3 := KS.out.fresh ((Fr.refl NoF wc).drew.trans hf3 (fun _ h => .inl h))
          have hT3 := hS3.p.all.tab Hpl2.out
          have hh := tab_has _ _ _ _ x _ hT3 (by have := Htok.out.size; omega)
          obtain ⟨v1, hv1⟩ : ∃ v, (M3.vs.getD i (undef, undef)).1 = v := ⟨_, rfl⟩
          obtain ⟨v2, hv2⟩ : ∃ v, (M3.vs.getD i (undef, undef)).2 = v := ⟨_, rfl⟩
          rw [Hti.out] at hh
          obtain ⟨B, hB⟩ : ∃ B, decide ((tabAt e.nds i).s.idxOf x < (tabAt e.nds i).s.length) = B := ⟨_, rfl⟩
          rw [hB] at hh
          rw [hv1, hv2, Hti.out] at hT3
          have hget : (cxpL p M3 e (.slice (some ⟨g, 0, none⟩) e.plen cap))[i + 4]? = some (tabO ti (tabAt e.nds i) v1 v2) := by
            have h1 := tabsO_get M3 e Hpl2.out
            rw [hv1, hv2, Hti.out] at h1
            exact h1
          have Hh := Lib.hid hh
          have HS3 := Lib.hid hS3.sy
          have HT3 := Lib.hid hT3
          have Hget := Lib.hid hget
          have HB := Lib.hid hB
          have hblk := hS3.p.all.core.blk
          have ksum : w3.cell? ⟨p, 2, none⟩ = some (.int .i64 (sums e.nds : Int)) := hS3.p.all.core.cells.2.2.1
          have fsum := free_of hblk 2
          have hset : Fr (fun k => k = p) w3 (w3.setCell ⟨p, 2, none⟩ (.int .i64 ((sums e.nds : Int) + 1))) := (Fr.refl (fun k => k = p) w3).setCell ⟨p, 2, none⟩ _ (.inl rfl)
          have hbn := block_setCell hblk (.int .i64 ((sums e.nds : Int) + 1)) (off := 2)
          have hS4 := hS3.sy.turn 1 (x := blkO p 62 (ctxVals M3.q M3.hv e)) (y := blkO p 62 #[.int .i64 (e.ord : Int), .pointer (some ⟨M3.q, 0, none⟩), .int .i64 ((sums e.nds : Int) + 1), .int .i64 (e.cells : Int), .int .i64 (rootOf e.nds : Int), M3.hv, .int .i64 (e.restarts : Int)]) rfl ⟨hset, fun k hk => .inl hk⟩ hbn (blkO_ob _ _ _)
          simp only [cxpL, cxL, List.set_cons_succ, List.set_cons_zero] at hS4
          have hT4 := hT3.keep hset (fun k hk e2 => by
            have h1 := hS3.sy.st.ap
            have h2 : (cxpL p M3 e (.slice (some ⟨g, 0, none⟩) e.plen cap)).Sublist (cxpL p M3 e (.slice (some ⟨g, 0, none⟩) e.plen cap)) := List.Sublist.refl _
            have h3 := (List.pairwise_cons.1 (List.pairwise_cons.1 h1).2).1 (tabO ti (tabAt e.nds i) v1 v2) (by
              have := List.mem_of_getElem? hget
              have h4 := List.mem_of_getElem? (show (tabsO M3 e)[i]? = some (tabO ti (tabAt e.nds i) v1 v2) from hget)
              exact List.mem_cons_of_mem _ (List.mem_cons_of_mem _ h4))
            exact h3 k e2 hk)
          have HS4 := Lib.hid hS4
          have HT4 := Lib.hid hT4
          clear hS3 hT3 hh q1 qk qt Hat hf3 KS hv1 hv2 hB hget hblk hset hbn hS4 hT4
          go_upto_if 63 with (go_at_call 14; refine Hh.out.mono ?_; rintro e4 w4 ⟨rfl, rfl⟩)
          cases B with
          | true =>
            have hsum2 : sums (setA e.nds (suf e.hist k) x) = sums e.nds := by rw [Hsum.out, if_pos (of_decide_eq_true HB.out)]; rfl
            have Hsum2 := Lib.hid hsum2
            clear hsum2 ksum fsum
            go_wp2_with (go_at_call 32; refine (tab_add ti (tabAt e.nds i) v1 v2 x _ HT3.out Htok.out).mono ?_; rintro e5 w5 ⟨rfl, y1, y2, h1, h2⟩; have HS5 := Lib.hid (HS3.out.turn (i + 4) (y := tabO ti ((tabAt e.nds i).add x) y1 y2) Hget.out h2 h1 (tabO_ob _ _ _ _)); clear h1 h2)
            go_roundw
            case rel =>
              have h5 := HS5.out
              simp only [cxpL, cxL, List.set_cons_succ] at h5
              rw [← Hti.out] at h5
              refine ⟨j + 1, _, by have := Hk.out; omega, by rw [show G + (j + 1) = k + 1 by have := Hk.out; omega]; go_num, Lib.hid (by rw [Hnext.out]; exact Hadd.out w5 y1 y2 _ Hsum2.out.symm h5)⟩
            case measure => simp [intOf]; omega
          | false =>
            have hsum2 : sums (setA e.nds (suf e.hist k) x) = sums e.nds + 1 := by rw [Hsum.out, if_neg (of_decide_eq_false HB.out)]
            have Hsum2 := Lib.hid hsum2
            have hsb : (sums e.nds : Int) ≤ 1048576 := by have := Hsb.out; omega
            have hsb0 : (0 : Int) ≤ (sums e.nds : Int) := by omega
            clear hsum2
            go_upto_region 14 with fail
            clear ksum fsum hsb hsb0
            generalize w3.setCell ⟨p, 2, none⟩ (.int .i64 ((sums e.nds : Int) + 1)) = w4 at *
            go_wp2_with (go_at_call 32; refine (tab_add ti (tabAt e.nds i) v1 v2 x _ HT4.out Htok.out).mono ?_; rintro e5 w5 ⟨rfl, y1, y2, h1, h2⟩; have HS5 := Lib.hid (HS4.out.turn (i + 4) (y := tabO ti ((tabAt e.nds i).add x) y1 y2) Hget.out h2 h1 (tabO_ob _ _ _ _)); clear h1 h2)
            go_roundw
            case rel =>
              have h5 := HS5.out
              simp only [List.set_cons_succ] at h5
              rw [← Hti.out] at h5
              have en : (sums e.nds : Int) + 1 = ((sums e.nds + 1 : Nat) : Int) := by omega
              rw [en] at h5
              refine ⟨j + 1, _, by have := Hk.out; omega, by rw [show G + (j + 1) = k + 1 by have := Hk.out; omega]; go_num, Lib.hid (by rw [Hnext.out]; exact Hadd.out w5 y1 y2 _ Hsum2.out.symm h5)⟩
            case measure => simp [intOf]; omega
      · have hI : ¬ (k : Int) ≤ (m : Int) := by omega
        repeat (first | (refine miz_skip (by rfl) ?_; (simp only [Act.put, List.setIfInBounds_toArray, List.set_cons_zero, List.set_cons_succ])) | (refine miz_step (by rfl) ?_; apply Exists.intro; refine ⟨fun u => ?_, ?_⟩; (focus (first | (unfold quietF; go_simp; first | done | exact ⟨rfl, rfl⟩))); (simp only [Act.put, List.setIfInBounds_toArray, List.set_cons_zero, List.set_cons_succ])) | (refine miz_free (by rfl) ?_; apply Exists.intro; refine ⟨?_, ?_⟩; (focus (unfold quietW; intro u; go_simp; first | done | rfl)); (simp only [Act.put, List.setIfInBounds_toArray, List.set_cons_zero, List.set_cons_succ])))
        refine miz_nil (fun w2 hf2 => ?_)
        have HS2 := Lib.hid (KC.out.fresh ((Fr.refl NoF wr).drew.trans hf2 (fun _ h => .inl h)))
        clear c0 c5 hf2 KC
        have hje : m + 1 - G = j := by have := Hk.out; omega
        have hend := Hend.out
        rw [hje] at hend
        have hcs := HS2.out
        have hh2 : Hr w2 M'.hv d.hist := hcs.p.all.core.hist
        obtain ⟨D, hD⟩ : ∃ D, d.part x G j = D := ⟨_, rfl⟩
        have hDh : D.hist = d.hist := by rw [← hD]; rfl
        have hDo : D.ord = d.ord := by rw [← hD]; rfl
        rw [hD] at hend hcs
        obtain ⟨O, hO⟩ : ∃ O, d.ord = O := ⟨_, rfl⟩
        rw [hO] at hend hDo
        have hlo := Hlo.out
        have h16 := H16.out
        rw [hO] at hlo h16
        -- the byte is appended
        have hF1 : Fr NoF w2 (w2.alloc (.cells #[.int .u8 (x.toNat : Int)] 5)) := (Fr.refl NoF w2).alloc _
        obtain ⟨v', w3, hrun, hH3, hF3, hat3⟩ := Hr.app (hh2.keep hF1 (fun _ _ x => x)) (by rw [HHL.out]; omega) x w2.heap.size (heap_alloc_new w2 _) 39
        have hS1 := hcs.sy.fresh hF1
        have hS3 := hS1.turn 3 (x := hisO M'.hv D.hist) (y := hisO v' (d.hist ++ [x])) rfl ⟨hF3.mono (fun k hk => .inl hk), fun k hk => hat3 k hk⟩ hH3 (hisO_ob _ _)
        simp only [cxpL, cxL, List.set_cons_succ, List.set_cons_zero] at hS3
        obtain ⟨a3, cap3, hv3⟩ := hH3.any (HL + 1) (by rw [List.length_append, HHL.out]; rfl)
        subst hv3
        have hb3 : w3.heap[p]? = some (.cells (ctxVals M'.q M'.hv D) 62 (0, 0)) := hS3.st.get (x := blkO p 62 (ctxVals M'.q M'.hv D)) (by simp)
        have k2 : w2.cell? ⟨p, 5, none⟩ = some M'.hv := hcs.p.all.core.cells.2.2.2.2.2.1
        have k3 : w3.cell? ⟨p, 5, none⟩ = some M'.hv := (cell_of hb3 5).trans rfl
        have f3 := free_of hb3 5
        have hset : Fr (fun k => k = p) w3 (w3.setCell ⟨p, 5, none⟩ (.slice a3 (HL + 1) cap3)) := (Fr.refl (fun k => k = p) w3).setCell ⟨p, 5, none⟩ _ (.inl rfl)
        have hb4 := block_setCell hb3 (.slice a3 (HL + 1) cap3) (off := 5)
        have hS4 := hS3.turn 1 (x := blkO p 62 (ctxVals M'.q M'.hv D)) (y := blkO p 62 (ctxVals M'.q (.slice a3 (HL + 1) cap3) D)) rfl ⟨hset, fun k hk => .inl hk⟩ hb4 (blkO_ob _ _ _)
        simp only [List.set_cons_succ, List.set_cons_zero] at hS4
        have HS4 := Lib.hid hS4
        have HCS := Lib.hid hcs
        have Hend2 := Lib.hid hend
        have HDh := Lib.hid hDh
        have HDo := Lib.hid hDo
        have Hrun := Lib.hid hrun
        have Hlo2 := Lib.hid hlo
        have H162 := Lib.hid h16
        clear hje hend hcs hh2 hD hDh hDo hO hlo h16 hF1 hH3 hF3 hat3 hS1 hS3 hb3 hset hb4 hS4 HS2 hrun Hend Hlo H16 hkm hI hj Hpok Hppl hGm hm16 hmI hmd
        obtain ⟨hv, hhv⟩ : ∃ v, M'.hv = v := ⟨_, rfl⟩
        rw [hhv] at k2 k3 Hrun
        go_upto_region 16 with (at_builtin; refine wpList_append_run rfl _ _ 39 rfl Hrun.out ?_)
        clear k2 k3 f3 Hrun hhv
        generalize w3.setCell ⟨p, 5, none⟩ (.slice a3 (HL + 1) cap3) = w4 at *
        obtain ⟨L1, hL1⟩ : ∃ n, HL + 1 = n := ⟨_, rfl⟩
        rw [hL1] at HS4
        have hb4 : w4.heap[p]? = some (.cells (ctxVals M'.q (.slice a3 L1 cap3) D) 62 (0, 0)) := HS4.out.st.get (x := blkO p 62 (ctxVals M'.q (.slice a3 L1 cap3) D)) (by simp)
        have k0 : w4.cell? ⟨p, 0, none⟩ = some (.int .i64 (D.ord : Int)) := (cell_of hb4 0).trans rfl
        have k5 : w4.cell? ⟨p, 5, none⟩ = some (.slice a3 L1 cap3) := (cell_of hb4 5).trans rfl
        have f5 := free_of hb4 5
        rw [HDo.out] at k0
        have c0 : ∀ u : InW (Fr NoF w4.drew), u.to.cell? ⟨p, 0, none⟩ = some (.int .i64 (O : Int)) := fun u => u.ok.cell_ (w := w4.drew) k0 (fun x => x)
        have c5 : ∀ u : InW (Fr NoF w4.drew), u.to.cell? ⟨p, 5, none⟩ = some (.slice a3 L1 cap3) := fun u => u.ok.cell_ (w := w4.drew) k5 (fun x => x)
        have hLO : L1 ≤ O + 1 := by have := Hlo2.out; omega
        have hO16 := H162.out
        clear k0 k5 f5 hb4
        rcases Nat.lt_or_ge O L1 with hful | hful
        · have hLe : L1 = O + 1 := by omega
          have em : IntKind.i64.wrap ((L1 : Int) - (O : Int)) = 1 := by rw [IntWalk.i64_in _ (by omega)]; omega
          have hL1p : 1 ≤ L1 := by omega
          have HLe := Lib.hid hLe
          clear hLe hLO
          refine wp_region_plan [(0, 1), (1, 1), (2, 1), (3, 1), (4, 1), (5, 1), (6, 1), (7, 1), (8, 1), (9, 1), (10, 1)] (by kernel_rfl) (by kernel_rfl) ?_
          simp only [planZ, List.getElem?_cons_zero, List.getElem?_cons_succ]
          repeat (first | (refine miz_skip (by rfl) ?_; (simp only [Act.put, List.setIfInBounds_toArray, List.set_cons_zero, List.set_cons_succ])) | (refine miz_step (by rfl) ?_; apply Exists.intro; refine ⟨fun u => ?_, ?_⟩; (focus (first | (unfold quietF; go_simp; first | done | exact ⟨rfl, rfl⟩))); (simp only [Act.put, List.setIfInBounds_toArray, List.set_cons_zero, List.set_cons_succ])) | (refine miz_free (by rfl) ?_; apply Exists.intro; refine ⟨?_, ?_⟩; (focus (unfold quietW; intro u; go_simp; first | done | rfl)); (simp only [Act.put, List.setIfInBounds_toArray, List.set_cons_zero, List.set_cons_succ])))
          refine miz_nil (fun w5 hf5 => ?_)
          have hS5 := HS4.out.fresh ((Fr.refl NoF w4).drew.trans hf5 (fun _ h => .inl h))
          have hb5 : w5.heap[p]? = some (.cells (ctxVals M'.q (.slice a3 L1 cap3) D) 62 (0, 0)) := hS5.st.get (x := blkO p 62 (ctxVals M'.q (.slice a3 L1 cap3) D)) (by simp)
          have hH5 : Hr w5 (.slice a3 L1 cap3) (d.hist ++ [x]) := hS5.st.get (x := hisO (.slice a3 L1 cap3) (d.hist ++ [x])) (by simp)
          have k5 : w5.cell? ⟨p, 5, none⟩ = some (.slice a3 L1 cap3) := (cell_of hb5 5).trans rfl
          have f5 := free_of hb5 5
          rcases hH5 with ⟨h1, _⟩ | ⟨g, off, cap, cur, hx⟩
          · injection h1 with _ h1 _
            omega
          · have hv := hx.val
            injection hv with h1 h2 h3
            subst h1
            subst h3
            have hLc := hx.le
            have hcut1 := hx.cut 1 (by rw [← h2]; exact hL1p)
            have hcut2 := fun h => hx.cut_end h
            rw [← h2] at hLc hcut1 hcut2
            have hdrop : trim O (d.hist ++ [x]) = (d.hist ++ [x]).drop 1 := by
              unfold trim
              rw [← h2, HLe.out]
              congr 1
              omega
            have HLc := Lib.hid hLc
            have HLn := Lib.hid h2
            have Hdrop := Lib.hid hdrop
            have Hcut1 := Lib.hid hcut1
            have Hcut2 := Lib.hid hcut2
            have HS5 := Lib.hid hS5
            have Hb5 := Lib.hid hb5
            have hLI : (1 : Int) ≤ (L1 : Int) := by omega
            clear hx hLc hcut1 hcut2 h2 hdrop hful hL1 hL1p hS5 hb5 c0 c5 em hf5 HS4 hO16
            have Hfin : Hid (∀ (V : Value), Hr w5 V ((d.hist ++ [x]).drop 1) → V.ownBlock = some g → ∃ M', CxAt (w5.setCell ⟨p, 5, none⟩ V) p M' (c.learn x F) ∧ Step w (w5.setCell ⟨p, 5, none⟩ V) (foot L0) (foot (cxL p M' (c.learn x F)))) := Lib.hid (fun V hV hVg => by
              have hset : Fr (fun k => k = p) w5 (w5.setCell ⟨p, 5, none⟩ V) := (Fr.refl (fun k => k = p) w5).setCell ⟨p, 5, none⟩ _ (.inl rfl)
              have hb6 := block_setCell Hb5.out V (off := 5)
              have hS6 := HS5.out.turn 1 (x := blkO p 62 (ctxVals M'.q (.slice (some ⟨g, off, none⟩) L1 cap3) D)) (y := blkO p 62 (ctxVals M'.q V D)) rfl ⟨hset, fun k hk => .inl hk⟩ hb6 (blkO_ob _ _ _)
              simp only [List.set_cons_succ, List.set_cons_zero] at hS6
              have hV6 : Hr (w5.setCell ⟨p, 5, none⟩ V) V ((d.hist ++ [x]).drop 1) := hV.keep hset (fun k hk e => by
                obtain ⟨cur2, hc2⟩ := hV.lt hk
                exact ne_of_ty hc2 Hb5.out (by decide) e)
              have hS7 := hS6.turn 3 (x := hisO (.slice (some ⟨g, off, none⟩) L1 cap3) (d.hist ++ [x])) (y := hisO V ((d.hist ++ [x]).drop 1)) rfl ⟨Fr.refl _ _, fun k hk => .inl (by
                have hk : V.ownBlock = some k := hk
                rw [hVg] at hk
                exact hk)⟩ hV6 (hisO_ob _ _)
              simp only [List.set_cons_succ, List.set_cons_zero] at hS7
              obtain ⟨hA, hst⟩ := HCS.out.hist hS7
              refine ⟨{ M' with hv := V }, ?_, ?_⟩
              · rw [← Hlearn.out, Hend2.out, Hdrop.out]
                exact hA
              · rw [← Hlearn.out, Hend2.out, Hdrop.out]
                exact hst)
            clear HS5 Hdrop Hend2 Hlearn HCS
            by_cases hc : cap3 = 1
            · subst hc
              have hL1e : L1 = 1 := by have := HLc.out; omega
              have HL1e := Lib.hid hL1e
              clear hL1e
              go_wp2
              go_end0
              obtain ⟨M6, h6, h7⟩ := Hfin.out (.slice (some ⟨g, off, none⟩) (L1 - 1) 0) (by
                have h8 := Hcut2.out HL1e.out
                have e1 : L1 - 1 = 0 := by rw [HL1e.out]
                have e2 : (d.hist ++ [x]).drop 1 = [] := List.eq_nil_of_length_eq_zero (by rw [List.length_drop, ← HLn.out, HL1e.out])
                rw [e1, e2]
                exact .inr ⟨g, off, 0, cur, h8⟩) rfl
              exact ⟨rfl, M6, h6, h7⟩
            · go_wp2
              go_end0
              obtain ⟨M6, h6, h7⟩ := Hfin.out (.slice (some ⟨g, off + 1, none⟩) (L1 - 1) (cap3 - 1)) (.inr ⟨g, off + 1, cap3 - 1, cur, Hcut1.out⟩) rfl
              exact ⟨rfl, M6, h6, h7⟩
        · have em : IntKind.i64.wrap ((L1 : Int) - (O : Int)) = (L1 : Int) - (O : Int) := IntWalk.i64_in _ (by omega)
          have hle : (L1 : Int) - (O : Int) ≤ 0 := by omega
          obtain ⟨N, hN⟩ : ∃ N, (L1 : Int) - (O : Int) = N := ⟨_, rfl⟩
          rw [hN] at em hle
          refine wp_region_plan [(0, 1), (1, 1), (2, 1), (3, 1), (4, 1), (5, 1), (6, 1), (7, 1), (8, 1), (9, 1), (10, 1)] (by kernel_rfl) (by kernel_rfl) ?_
          simp only [planZ, List.getElem?_cons_zero, List.getElem?_cons_succ]
          repeat (first | (refine miz_skip (by rfl) ?_; (simp only [Act.put, List.setIfInBounds_toArray, List.set_cons_zero, List.set_cons_succ])) | (refine miz_step (by rfl) ?_; apply Exists.intro; refine ⟨fun u => ?_, ?_⟩; (focus (first | (unfold quietF; go_simp; first | done | exact ⟨rfl, rfl⟩))); (simp only [Act.put, List.setIfInBounds_toArray, List.set_cons_zero, List.set_cons_succ])) | (refine miz_free (by rfl) ?_; apply Exists.intro; refine ⟨?_, ?_⟩; (focus (unfold quietW; intro u; go_simp; first | done | rfl)); (simp only [Act.put, List.setIfInBounds_toArray, List.set_cons_zero, List.set_cons_succ])))
          refine miz_nil (fun w5 hf5 => ?_)
          have hS5 := HS4.out.fresh ((Fr.refl NoF w4).drew.trans hf5 (fun _ h => .inl h))
          have htrim : trim O (d.hist ++ [x]) = d.hist ++ [x] := by
            unfold trim
            rw [List.length_append, HHL.out, List.length_singleton, hL1, Nat.sub_eq_zero_of_le hful]
            rfl
          obtain ⟨hA, hst⟩ := HCS.out.hist hS5
          have Hfin : Hid (CxAt w5 p { M' with hv := .slice a3 L1 cap3 } (c.learn x F) ∧ Step w w5 (foot L0) (foot (cxL p { M' with hv := .slice a3 L1 cap3 } (c.learn x F)))) := Lib.hid (by
            rw [← Hlearn.out, Hend2.out, htrim]
            exact ⟨hA, hst⟩)
          clear hS5 htrim hA hst c0 c5 hf5 em HS4 HCS Hend2 hN
          go_wp2
          go_end0
          exact ⟨rfl, _, Hfin.out.1, Hfin.out.2⟩
end Go.Proofs.Ytopnnbhiehljlaa
