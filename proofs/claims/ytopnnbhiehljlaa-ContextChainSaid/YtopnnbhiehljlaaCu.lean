/- Layer 18 (context): the path grows by a node below its last one. -/
import Derived.Test.YtopnnbhiehljlaaCt
namespace Go.Proofs.Ytopnnbhiehljlaa
set_option linter.unusedVariables false
open Go.RowKit Go.My Go.Cx

set_option maxHeartbeats 8000000 in
set_option maxRecDepth 100000 in
theorem cx_grow1 {w : World} {p : Nat} {M : Mm} {c : C} {pv : Value} (h : CxP w p M c pv) (hOk : c.Ok) (hpos : 0 < c.plen) (hk : c.plen ≤ c.m) (hroom : used c.nds < c.cells) :
    Calls Try.prog 30 #[.pointer (some ⟨p, 0, none⟩), pv] w fun e w' => ∃ pv' M', e = .returned pv' ∧ CxP w' p M' (c.with (addN c.nds (suf c.hist c.plen))) pv' ∧ Step w w' (foot (cxpL p M c pv)) (foot (cxpL p M' (c.with (addN c.nds (suf c.hist c.plen))) pv')) := by
  obtain ⟨i0, hi, hz0, hz1, hz2⟩ := info_parts signs_info3
  have hml := c.m_le
  have h16 := hOk.ord16
  have hcl := hOk.hi
  have hno := hOk.not_has hk (Nat.le_refl _)
  have hss := suf_succ (h := c.hist) (k := c.plen - 1) (by omega)
  rw [show c.plen - 1 + 1 = c.plen by omega] at hss
  have hhas := c.plen_has (k := c.plen - 1) (by omega)
  have hne : suf c.hist c.plen ≠ [] := by rw [hss]; simp
  have htl2 : (suf c.hist c.plen).tail = suf c.hist (c.plen - 1) := by rw [hss]; rfl
  have hhd : (suf c.hist c.plen).headD 0 = c.hist.getD (c.hist.length - c.plen) 0 := by rw [hss]; rfl
  have hback := cx_back h.all.core hOk c.plen hpos (by omega)
  have hnvs := fun tp => nvs_grow hOk.good hno hne (by rw [htl2]; exact hhas) M.tps tp h.tl
  rw [htl2, hhd] at hnvs
  obtain ⟨s, hs⟩ : ∃ s, c.hist.getD (c.hist.length - c.plen) 0 = s := ⟨_, rfl⟩
  rw [hs] at hback hnvs
  obtain ⟨hj1, hj2⟩ := place_txt hhas
  have hid := ids_get c c.plen (c.plen - 1) (by omega)
  rw [idOf_place hhas] at hid
  obtain ⟨j, hj⟩ : ∃ j, place c.nds (suf c.hist (c.plen - 1)) = j := ⟨_, rfl⟩
  rw [hj] at hj1 hj2 hid hnvs
  have hnode := (h.all.core.node hj1).2.1
  have hat := h.all.core.at_ hj1
  have hnvj : (nvs c.nds M.tps).getD j ⟨0, 0, 0, 0⟩ = nvAt c.nds M.tps j := nvs_get hj1
  rw [hj2] at hnode
  obtain ⟨K, hK⟩ : ∃ K, kid c.nds (suf c.hist (c.plen - 1)) c.nds.length = K := ⟨_, rfl⟩
  rw [hK] at hnode hnvs
  obtain ⟨c0, c1, c2, c3, c4, c5, c6⟩ := h.all.core.cells
  have hrow := h.row
  obtain ⟨gp, cp, hpv⟩ := own_slice hrow hpos
  have hS : Sy w (cxpL p M c pv) w (rowO pv c.plen (ids c c.plen) :: cxL p M c) := Sy.start h.st
  have hbl := h.bl
  have hlen : c.nds.length < c.cells := by unfold used at hroom; omega
  have hroot : rootOf c.nds = 1 := by unfold rootOf; rw [if_neg (fun e => by rw [e] at hj1; simp at hj1)]
  have hclose := fun (w' : World) (pv' u : Value) (b tp : Nat) (vs : List Nv) => CxP.grown (w0 := w) (w := w') (L0 := cxpL p M c pv) (p := p) (pv := pv') (u := u) (b := b) (tp := tp) (vs := vs) hOk hk hbl h.tl h.vl
  have hcv : ctxVals M.q M.hv c = #[.int .i64 (c.ord : Int), .pointer (some ⟨M.q, 0, none⟩), .int .i64 (sums c.nds : Int), .int .i64 (c.cells : Int), .int .i64 1, M.hv, .int .i64 (c.restarts : Int)] := by unfold ctxVals; rw [hroot]; rfl
  have hcellp : w.cell? ⟨gp, c.plen - 1, none⟩ = some (.int .i64 ((j : Int) + 1)) := by
    rw [hpv] at hrow
    have := row_at hrow (k := c.plen - 1) (by omega)
    rw [hid] at this
    exact this.trans (by norm_cast)
  have hAr := h.all.core.ar
  generalize hL0 : cxpL p M c pv = L0 at *
  obtain ⟨PL, hPL⟩ : ∃ P, c.plen = P := ⟨_, rfl⟩
  obtain ⟨n, hn⟩ : ∃ n, c.nds.length = n := ⟨_, rfl⟩
  rw [hPL] at hcellp hback hpv
  rw [hn] at hlen hbl
  have hlb : (n : Int) ≤ 1048576 := by omega
  have hPb : (PL : Int) ≤ 16 := by omega
  have hP0 : (0 : Int) < (PL : Int) := by omega
  have em : IntKind.i64.wrap ((PL : Int) - 1) = ((PL - 1 : Nat) : Int) := by rw [IntWalk.i64_in _ (by omega)]; omega
  have hP1 : (0 : Int) ≤ ((PL - 1 : Nat) : Int) := by omega
  have hP2 : ((PL - 1 : Nat) : Int) < (PL : Int) := by omega
  have hPz : ((PL : Int) == 0) = false := by
    have : ¬ ((PL : Int) = 0) := by omega
    simpa using this
  obtain ⟨r, hr⟩ : ∃ r, PL - 1 = r := ⟨_, rfl⟩
  rw [hr] at hcellp em hP1 hP2
  have Hi := Lib.hid hi
  have Hz0 := Lib.hid hz0
  have Hz1 := Lib.hid hz1
  have Hz2 := Lib.hid hz2
  have HS := Lib.hid hS
  have Hclose := Lib.hid hclose
  have Hnvs := Lib.hid hnvs
  have Hback := Lib.hid hback
  have Hcore := Lib.hid h.all.core
  have Hj1 := Lib.hid hj1
  have Hnvj := Lib.hid hnvj
  have Hbl := Lib.hid hbl
  have Hcv := Lib.hid hcv
  have Hlen := Lib.hid hlen
  have Hrow := Lib.hid hrow
  have Hn := Lib.hid hn
  have HPL := Lib.hid hPL
  have Hpv := Lib.hid hpv
  have hat2 := fun (w1 : World) (hf : Fr NoF w w1) (u : InW (Fr NoF w1.drew)) => (h.all.core.keep (hf.drew.trans u.ok (fun _ h => .inl h)) (fun _ _ x => x)).at_ hj1
  have Hat2 := Lib.hid hat2
  have hjb : j < M.bs.length := by rw [hbl, ← hn]; exact hj1
  have hjne : j < n := by rw [← hbl]; exact hjb
  have Hjb := Lib.hid hjb
  obtain ⟨bj, hbj⟩ : ∃ x, M.bs.getD j 0 = x := ⟨_, rfl⟩
  rw [hbj] at hnode
  have Hbj := Lib.hid hbj
  subst hpv
  clear h hOk hpos hk hroom hi hz0 hz1 hz2 hml h16 hcl hno hss hhas hne htl2 hhd hback hnvs hs hid hj hj1 hj2 hat hnvj hK c0 c2 c3 c4 c5 c6 hrow hS hbl hlen hroot hcv hclose hAr hL0 hPL hn hat2 hjb hbj hr hjne
  go_enter Try.func30, Try.ntmps30
  go_upto_region 7 with (go_at_call 50; refine Hback.out.mono ?_; rintro e w1 ⟨rfl, hf1⟩; have HF1 := Lib.hid hf1; clear hf1)
  have q1 : ∀ u : InW (Fr NoF w1.drew), u.to.cell? ⟨p, 1, none⟩ = some (.pointer (some ⟨M.q, 0, none⟩)) := fun u => u.ok.cell_ (w := w1.drew) (HF1.out.cell_ c1 (fun x => x)) (fun x => x)
  have qn : ∀ u : InW (Fr NoF w1.drew), u.to.cell? ⟨bj, 1, none⟩ = some (.int .i64 (K : Int)) := fun u => u.ok.cell_ (w := w1.drew) (HF1.out.cell_ hnode (fun x => x)) (fun x => x)
  have hat3 := Hat2.out w1 HF1.out
  rw [Hbj.out] at hat3
  have Hat3 := Lib.hid hat3
  have hS1 := HS.out.fresh HF1.out
  have HS1 := Lib.hid hS1
  clear hat3 hS1 hnode c1 hcellp em hP1 hP2 hPz
  refine wp_region_plan [(0, 1), (1, 1), (2, 1), (3, 1), (4, 1), (5, 1), (6, 1), (7, 1), (8, 1), (9, 1), (10, 1), (11, 1), (12, 1), (13, 1), (14, 0), (15, 1), (16, 3), (17, 1), (18, 1), (19, 1), (20, 1), (21, 1)] (by kernel_rfl) (by kernel_rfl) ?_
  simp only [planZ, List.getElem?_cons_zero, List.getElem?_cons_succ]
  repeat (first | (refine miz_skip (by rfl) ?_; (simp only [Act.put, List.setIfInBounds_toArray, List.set_cons_zero, List.set_cons_succ])) | (refine miz_step (by rfl) ?_; apply Exists.intro; refine ⟨fun u => ?_, ?_⟩; (focus (first | (unfold quietF; go_simp; first | done | exact ⟨rfl, rfl⟩ | (refine ⟨rfl, ?_⟩; (go_at_call 31; exact (Hat3.out u).mono fun e w' ⟨h1, h2⟩ => ⟨h1, by rw [← h2]; exact Fr.refl _ _⟩))))); (simp only [Act.put, List.setIfInBounds_toArray, List.set_cons_zero, List.set_cons_succ])) | (refine miz_free (by rfl) ?_; apply Exists.intro; refine ⟨?_, ?_⟩; (focus (unfold quietW; intro u; go_simp; first | done | rfl)); (simp only [Act.put, List.setIfInBounds_toArray, List.set_cons_zero, List.set_cons_succ])))
  refine miz_loud (by rfl) (fun w2 hf2 K1 hK1 => ?_)
  go_simp
  go_at_call 53
  refine (tab_new _).mono ?_
  rintro e w3 ⟨rfl, ht, hf3⟩
  refine hK1.out _ _ hf3 ?_
  clear hK1 K1
  have hS3 := (HS1.out.fresh ((Fr.refl _ _).drew.trans hf2 (fun _ h => .inl h))).snoc hf3 ht (tabO_ob _ _ _ _) (fun k hk => tabFoot_new hk)
  obtain ⟨tp, htp⟩ : ∃ x, w2.heap.size = x := ⟨_, rfl⟩
  rw [htp] at hS3 ⊢
  have HS3 := Lib.hid hS3
  clear hS3 htp ht hf3 hf2 HS HS1 q1 qn Hat3
  repeat (first | (refine miz_skip (by rfl) ?_; (simp only [Act.put, List.setIfInBounds_toArray, List.set_cons_zero, List.set_cons_succ])) | (refine miz_step (by rfl) ?_; apply Exists.intro; refine ⟨fun u => ?_, ?_⟩; (focus (first | (unfold quietF; go_simp; first | done | exact ⟨rfl, rfl⟩))); (simp only [Act.put, List.setIfInBounds_toArray, List.set_cons_zero, List.set_cons_succ])) | (refine miz_free (by rfl) ?_; apply Exists.intro; refine ⟨?_, ?_⟩; (focus (unfold quietW; intro u; go_simp; first | done | rfl)); (simp only [Act.put, List.setIfInBounds_toArray, List.set_cons_zero, List.set_cons_succ])))
  refine miz_turn (by rfl) (fun w4 hf4 K1 hK1 => ?_)
  have hS4 := HS3.out.fresh hf4
  have hA4 : ArN w4 M.q c.cells M.u M.bs (nvs c.nds M.tps) := hS4.st.get (x := arO M.q c.cells M.u M.bs (nvs c.nds M.tps)) (by simp [cxL])
  have hT := ar_take hA4 (by rw [Hbl.out]; exact Hlen.out) ⟨s, 0, K, tp⟩
  rw [Hbl.out] at hT
  go_simp
  go_at_call 52
  refine hT.mono ?_
  rintro e w5 ⟨rfl, u', b, hA5, hs5⟩
  refine hK1.out _ _ ?_
  clear hK1 K1
  have hS5 := hS4.turn 2 (x := arO M.q c.cells M.u M.bs (nvs c.nds M.tps)) (y := arO M.q c.cells u' (M.bs ++ [b]) (nvs c.nds M.tps ++ [(⟨s, 0, K, tp⟩ : Nv)])) (by simp [cxL]) hs5 hA5 (arO_ob _ _ _ _ _)
  simp only [cxL, List.cons_append, List.set_cons_succ, List.set_cons_zero] at hS5
  have HS5 := Lib.hid hS5
  clear hS5 hS4 hA4 hT hA5 hs5 hf4 HS3
  repeat (first | (refine miz_skip (by rfl) ?_; (simp only [Act.put, List.setIfInBounds_toArray, List.set_cons_zero, List.set_cons_succ])) | (refine miz_step (by rfl) ?_; apply Exists.intro; refine ⟨fun u => ?_, ?_⟩; (focus (first | (unfold quietF; go_simp; first | done | exact ⟨rfl, rfl⟩))); (simp only [Act.put, List.setIfInBounds_toArray, List.set_cons_zero, List.set_cons_succ])) | (refine miz_free (by rfl) ?_; apply Exists.intro; refine ⟨?_, ?_⟩; (focus (unfold quietW; intro u; go_simp; first | done | rfl)); (simp only [Act.put, List.setIfInBounds_toArray, List.set_cons_zero, List.set_cons_succ])))
  refine miz_nil (fun w6 hf6 => ?_)
  have hS6 := HS5.out.fresh hf6
  have hb6 : w6.heap[p]? = some (.cells (ctxVals M.q M.hv c) 62 (0, 0)) := hS6.st.get (x := blkO p 62 (ctxVals M.q M.hv c)) (by simp)
  have k6 : w6.cell? ⟨p, 1, none⟩ = some (.pointer (some ⟨M.q, 0, none⟩)) := (cell_of hb6 1).trans rfl
  have hA6 : ArN w6 M.q c.cells u' (M.bs ++ [b]) (nvs c.nds M.tps ++ [(⟨s, 0, K, tp⟩ : Nv)]) := hS6.st.get (x := arO M.q c.cells u' (M.bs ++ [b]) (nvs c.nds M.tps ++ [(⟨s, 0, K, tp⟩ : Nv)])) (by simp)
  have hjb2 : j < (M.bs ++ [b]).length := by rw [List.length_append]; exact Nat.lt_of_lt_of_le Hjb.out (Nat.le_add_right _ _)
  have hat6 := ar_at hA6 j hjb2
  have hset := hA6.setCh hjb2 (n + 1)
  have hbj2 : (M.bs ++ [b]).getD j 0 = bj := by rw [← Hbj.out]; simp only [List.getD]; rw [List.getElem?_append_left Hjb.out]
  have hvj : (nvs c.nds M.tps ++ [(⟨s, 0, K, tp⟩ : Nv)]).getD j ⟨0, 0, 0, 0⟩ = nvAt c.nds M.tps j := by
    rw [← Hnvj.out]
    simp only [List.getD]
    rw [List.getElem?_append_left (by rw [nvs_length]; exact Hj1.out)]
  have hc6 := hA6.cell j hjb2
  rw [hbj2] at hat6 hset hc6
  rw [hvj] at hset hc6
  have kj : w6.cell? ⟨bj, 1, none⟩ = some (.int .i64 ((nvAt c.nds M.tps j).ch : Int)) := (cell_of hc6 1).trans rfl
  have fj := free_of hc6 1
  have en : ((n + 1 : Nat) : Int) = (n : Int) + 1 := by omega
  rw [en] at hset
  have hS7 := hS6.turn 2 (x := arO M.q c.cells u' (M.bs ++ [b]) (nvs c.nds M.tps ++ [(⟨s, 0, K, tp⟩ : Nv)])) (y := arO M.q c.cells u' (M.bs ++ [b]) ((nvs c.nds M.tps ++ [(⟨s, 0, K, tp⟩ : Nv)]).set j { nvAt c.nds M.tps j with ch := n + 1 })) (by simp) ⟨hset.2.mono (fun k hk => .inl (.inr (.inr (by
    have e : k = bj := hk
    rw [e, ← hbj2]
    simp only [List.getD]
    rw [List.getElem?_eq_getElem hjb2]
    exact List.getElem_mem _)))), fun k hk => .inl hk⟩ hset.1 (arO_ob _ _ _ _ _)
  simp only [List.set_cons_succ, List.set_cons_zero] at hS7
  have HS7 := Lib.hid hS7
  have Hat6 := Lib.hid hat6
  obtain ⟨cj, hcj⟩ : ∃ x, (nvAt c.nds M.tps j).ch = x := ⟨_, rfl⟩
  rw [hcj] at kj
  clear hS6 hb6 hA6 hjb2 hat6 hset hbj2 hvj hc6 en hS7 hf6 HS5 hcj
  go_upto_region 9 with (go_at_call 31; refine Hat6.out.mono ?_; rintro e w7 ⟨rfl, rfl⟩)
  generalize w6.setCell ⟨bj, 1, none⟩ (.int .i64 ((n : Int) + 1)) = w9 at *
  clear k6 kj fj Hat6
  have hr9 : w9.ownsRow 0 3 1 (.slice (some ⟨gp, 0, none⟩) PL cp) c.plen (intsV (ids c c.plen)) := HS7.out.st.get (x := rowO (.slice (some ⟨gp, 0, none⟩) PL cp) c.plen (ids c c.plen)) (by simp)
  rw [HPL.out] at hr9
  have HR9 := Lib.hid hr9
  have hnz : (0 : Int) ≤ (n : Int) := by omega
  clear hr9
  go_wp2_with (at_builtin; refine wpList_append_my _ rfl _ _ 40 rfl 0 3 i0 (.int .i64 0) 1 8 Try.underlying40 Hi.out Hz0.out Hz1.out Hz2.out rfl (by decide) (.slice (some ⟨gp, 0, none⟩) PL cp) PL _ (by rfl) (HR9.out.alloc _) ⟨w9.heap.size, 0, none⟩ 1 1 [.int .i64 ((n : Int) + 1)] (by rfl) (by rfl) (World.news_of_block (cs := #[.int .i64 ((n : Int) + 1)]) (t := 3) (fr := (0, 0)) (heap_alloc_new _ _)) (by simp [Value.oneCell']) (by decide) (by unfold maxLen; omega) (by omega) (Nat.zero_le _) _ rfl ?_; intro g2 cap2 w10 hown hgrow hat hlt2 hsame; have IB := Lib.hid hown; have IG := Lib.hid hgrow; have IA := Lib.hid hat; clear hown hgrow hat hlt2 hsame)
  have hS9 := HS7.out.fresh ((Fr.refl NoF w9).alloc (.cells #[.int .i64 ((n : Int) + 1)] 3))
  have hs10 : Step (w9.alloc (.cells #[.int .i64 ((n : Int) + 1)] 3)) w10 (rowO (.slice (some ⟨gp, 0, none⟩) PL cp) c.plen (ids c c.plen)).2 (rowO (.slice (some ⟨g2, 0, none⟩) (PL + 1) cap2) (c.plen + 1) (ids c c.plen ++ [c.nds.length + 1])).2 :=
    ⟨(Fr.refl _ _).grown IG.out (fun k hk => .inl hk), fun k hk => by
      have e : g2 = k := by simpa [rowO, Value.ownBlock] using hk
      subst e
      exact IA.out.imp id (fun h => by rw [h]; exact Nat.le_refl _)⟩
  have hS10 := hS9.turn 0 (x := rowO (.slice (some ⟨gp, 0, none⟩) PL cp) c.plen (ids c c.plen)) (y := rowO (.slice (some ⟨g2, 0, none⟩) (PL + 1) cap2) (c.plen + 1) (ids c c.plen ++ [c.nds.length + 1])) (by simp) hs10 (by
    show w10.ownsRow 0 3 1 _ (c.plen + 1) (intsV (ids c c.plen ++ [c.nds.length + 1]))
    rw [HPL.out, Hn.out]
    have := IB.out
    simpa [intsV] using this) (rowO_ob _ _ _)
  simp only [List.set_cons_zero] at hS10
  have HS10 := Lib.hid hS10
  clear hS9 hs10 hS10 HS7 HR9
  go_ret
  have e10 := HS10.out
  rw [Hcv.out] at e10
  have hv := Hnvs.out tp
  rw [Hn.out] at hv
  obtain ⟨M', h1, h2⟩ := Hclose.out _ _ _ _ _ _ e10 hv.symm
  exact ⟨_, M', rfl, h1, h2⟩
end Go.Proofs.Ytopnnbhiehljlaa
