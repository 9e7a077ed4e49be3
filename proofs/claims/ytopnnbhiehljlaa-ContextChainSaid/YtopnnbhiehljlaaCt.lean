/- Layer 18 (context): the path grows by a first node. -/
import Derived.Test.YtopnnbhiehljlaaCs
namespace Go.Proofs.Ytopnnbhiehljlaa
set_option linter.unusedVariables false
open Go.RowKit Go.My Go.Cx

theorem tabFoot_new {n k : Nat} (h : tabFoot n (.slice none 0 0) (.slice none 0 0) k) : n ≤ k := by
  rcases h with rfl | h | h
  · exact Nat.le_refl _
  · cases h
  · cases h
theorem CxP.grown {w0 w : World} {L0 : List Thing} {p : Nat} {M : Mm} {c : C} {pv : Value} {u : Value} {b tp : Nat} {vs : List Nv} (hOk : c.Ok) (hk : c.plen ≤ c.m) (bl : M.bs.length = c.nds.length) (tl : M.tps.length = c.nds.length) (vl : M.vs.length = c.nds.length)
    (hS : Sy w0 L0 w (rowO pv (c.plen + 1) (ids c c.plen ++ [c.nds.length + 1]) :: blkO p 62 #[.int .i64 (c.ord : Int), .pointer (some ⟨M.q, 0, none⟩), .int .i64 (sums c.nds : Int), .int .i64 (c.cells : Int), .int .i64 1, M.hv, .int .i64 (c.restarts : Int)] ::
      arO M.q c.cells u (M.bs ++ [b]) vs :: hisO M.hv c.hist :: (tabsO M c ++ [tabO tp Fq.T.none_ (.slice none 0 0) (.slice none 0 0)])))
    (hvs : vs = nvs (addN c.nds (suf c.hist c.plen)) (M.tps ++ [tp])) :
    ∃ M', CxP w p M' (c.with (addN c.nds (suf c.hist c.plen))) pv ∧ Step w0 w (foot L0) (foot (cxpL p M' (c.with (addN c.nds (suf c.hist c.plen))) pv)) := by
  refine ⟨⟨M.q, u, M.hv, M.bs ++ [b], M.tps ++ [tp], M.vs ++ [(.slice none 0 0, .slice none 0 0)]⟩, ?_⟩
  have e : cxpL p ⟨M.q, u, M.hv, M.bs ++ [b], M.tps ++ [tp], M.vs ++ [(.slice none 0 0, .slice none 0 0)]⟩ (c.with (addN c.nds (suf c.hist c.plen))) pv = rowO pv (c.plen + 1) (ids c c.plen ++ [c.nds.length + 1]) :: blkO p 62 #[.int .i64 (c.ord : Int), .pointer (some ⟨M.q, 0, none⟩), .int .i64 (sums c.nds : Int), .int .i64 (c.cells : Int), .int .i64 1, M.hv, .int .i64 (c.restarts : Int)] ::
      arO M.q c.cells u (M.bs ++ [b]) vs :: hisO M.hv c.hist :: (tabsO M c ++ [tabO tp Fq.T.none_ (.slice none 0 0) (.slice none 0 0)]) := by
    unfold cxpL cxL
    rw [grow_plen hOk hk, ids_grow hOk hk, hvs, tabsO_grow (M := M) (suf c.hist c.plen) tp (.slice none 0 0) (.slice none 0 0) tl vl rfl rfl]
    have e1 : rootOf (c.with (addN c.nds (suf c.hist c.plen))).nds = 1 := by
      show rootOf (addN _ _) = 1
      unfold rootOf addN
      rw [if_neg (by simp)]
    have e2 : sums (c.with (addN c.nds (suf c.hist c.plen))).nds = sums c.nds := sums_addN _ _
    unfold ctxVals
    rw [e1, e2]
    rfl
  refine ⟨⟨?_, ?_, ?_, ?_⟩, ?_⟩
  · have h1 := hS.st
    rw [← e] at h1
    exact h1
  · show (M.bs ++ [b]).length = (addN _ _).length
    rw [addN_length, List.length_append, bl]; rfl
  · show (M.tps ++ [tp]).length = (addN _ _).length
    rw [addN_length, List.length_append, tl]; rfl
  · show (M.vs ++ [_]).length = (addN _ _).length
    rw [addN_length, List.length_append, vl]; rfl
  · have h1 := hS.step
    rw [← e] at h1
    exact h1

set_option maxHeartbeats 4000000 in
set_option maxRecDepth 100000 in
theorem cx_grow0 {w : World} {p : Nat} {M : Mm} {c : C} {pv : Value} (h : CxP w p M c pv) (hOk : c.Ok) (hz : c.plen = 0) :
    Calls Try.prog 30 #[.pointer (some ⟨p, 0, none⟩), pv] w fun e w' => ∃ pv' M', e = .returned pv' ∧ CxP w' p M' (c.with (addN c.nds (suf c.hist c.plen))) pv' ∧ Step w w' (foot (cxpL p M c pv)) (foot (cxpL p M' (c.with (addN c.nds (suf c.hist c.plen))) pv')) := by
  have hnil : c.nds = [] := by
    have h1 := root_plen hOk
    cases hn : c.nds with
    | nil => rfl
    | cons a b => have := h1.2 (by rw [hn]; simp); omega
  obtain ⟨c0, c1, c2, c3, c4, c5, c6⟩ := h.all.core.cells
  have hrow := h.row
  rw [hz] at hrow
  obtain ⟨ap, cp, hpv⟩ := own_any hrow
  have hS : Sy w (cxpL p M c pv) w (rowO pv c.plen (ids c c.plen) :: cxL p M c) := Sy.start h.st
  have hbl := h.bl
  have htl := h.tl
  have hvl := h.vl
  have hbs : M.bs = [] := List.eq_nil_of_length_eq_zero (by rw [hbl, hnil]; rfl)
  have hts : M.tps = [] := List.eq_nil_of_length_eq_zero (by rw [htl, hnil]; rfl)
  have hclose := fun (w' : World) (pv' u : Value) (b tp : Nat) (vs : List Nv) => CxP.grown (w0 := w) (w := w') (L0 := cxpL p M c pv) (p := p) (pv := pv') (u := u) (b := b) (tp := tp) (vs := vs) hOk (by omega) hbl htl hvl
  have hlo := hOk.lo
  have hroom : 0 < c.cells := by omega
  have hids : ids c c.plen ++ [c.nds.length + 1] = [1] := by rw [hz, hnil]; rfl
  have hnv0 : nvs c.nds M.tps = [] := by rw [hnil]; rfl
  have hnv1 : ∀ tp, nvs (addN c.nds (suf c.hist c.plen)) (M.tps ++ [tp]) = [⟨0, 0, 0, tp⟩] := fun tp => by rw [hnil, hz, suf_zero, hts]; exact nvs_root tp
  rw [hids, hz] at hclose
  rw [hz] at hnv1
  rw [hz] at hS ⊢
  generalize hL0 : cxpL p M c pv = L0 at *
  have q1 : ∀ u : InW (Fr NoF w.drew), u.to.cell? ⟨p, 1, none⟩ = some (.pointer (some ⟨M.q, 0, none⟩)) := fun u => u.ok.cell_ (w := w.drew) c1 (fun x => x)
  have HS := Lib.hid hS
  have Hclose := Lib.hid hclose
  have Hbs := Lib.hid hbs
  have Hnv0 := Lib.hid hnv0
  have Hnv1 := Lib.hid hnv1
  have Hroom := Lib.hid hroom
  subst hpv
  clear h hOk hz hnil c0 c1 c2 c3 c4 c5 c6 hrow hS hbl htl hvl hbs hts hclose hlo hroom hids hnv0 hnv1 hL0
  go_enter Try.func30, Try.ntmps30
  go_upto_region 3 with fail
  refine wp_region_plan [(0, 2), (1, 1), (2, 1), (3, 1), (4, 1), (5, 0), (6, 1), (7, 3), (8, 1), (9, 1), (10, 2), (11, 1), (12, 1), (13, 3)] (by kernel_rfl) (by kernel_rfl) ?_
  simp only [planZ, List.getElem?_cons_zero, List.getElem?_cons_succ]
  repeat (first | (refine miz_skip (by rfl) ?_; (simp only [Act.put, List.setIfInBounds_toArray, List.set_cons_zero, List.set_cons_succ])) | (refine miz_step (by rfl) ?_; apply Exists.intro; refine ⟨fun u => ?_, ?_⟩; (focus (first | (unfold quietF; go_simp; first | done | exact ⟨rfl, rfl⟩))); (simp only [Act.put, List.setIfInBounds_toArray, List.set_cons_zero, List.set_cons_succ])) | (refine miz_free (by rfl) ?_; apply Exists.intro; refine ⟨?_, ?_⟩; (focus (unfold quietW; intro u; go_simp; first | done | rfl)); (simp only [Act.put, List.setIfInBounds_toArray, List.set_cons_zero, List.set_cons_succ])))
  refine miz_loud (by rfl) (fun w2 hf2 K1 hK1 => ?_)
  go_simp
  go_at_call 53
  refine (tab_new _).mono ?_
  rintro e w3 ⟨rfl, ht, hf3⟩
  refine hK1.out _ _ hf3 ?_
  clear hK1 K1
  have hS3 := (HS.out.fresh ((Fr.refl _ _).drew.trans hf2 (fun _ h => .inl h))).snoc hf3 ht (tabO_ob _ _ _ _) (fun k hk => tabFoot_new hk)
  obtain ⟨tp, htp⟩ : ∃ x, w2.heap.size = x := ⟨_, rfl⟩
  rw [htp] at hS3 ⊢
  have HS3 := Lib.hid hS3
  clear hS3 htp ht hf3 hf2 HS q1
  repeat (first | (refine miz_skip (by rfl) ?_; (simp only [Act.put, List.setIfInBounds_toArray, List.set_cons_zero, List.set_cons_succ])) | (refine miz_step (by rfl) ?_; apply Exists.intro; refine ⟨fun u => ?_, ?_⟩; (focus (first | (unfold quietF; go_simp; first | done | exact ⟨rfl, rfl⟩))); (simp only [Act.put, List.setIfInBounds_toArray, List.set_cons_zero, List.set_cons_succ])) | (refine miz_free (by rfl) ?_; apply Exists.intro; refine ⟨?_, ?_⟩; (focus (unfold quietW; intro u; go_simp; first | done | rfl)); (simp only [Act.put, List.setIfInBounds_toArray, List.set_cons_zero, List.set_cons_succ])))
  refine miz_turn (by rfl) (fun w4 hf4 K1 hK1 => ?_)
  have hS4 := HS3.out.fresh hf4
  have hA4 : ArN w4 M.q c.cells M.u M.bs (nvs c.nds M.tps) := hS4.st.get (x := arO M.q c.cells M.u M.bs (nvs c.nds M.tps)) (by simp [cxL])
  rw [Hnv0.out, Hbs.out] at hA4
  have hT := ar_take hA4 Hroom.out ⟨0, 0, 0, tp⟩
  go_simp
  go_at_call 52
  refine hT.mono ?_
  rintro e w5 ⟨rfl, u', b, hA5, hs5⟩
  refine hK1.out _ _ ?_
  clear hK1 K1
  have hS5 := hS4.turn 2 (x := arO M.q c.cells M.u M.bs (nvs c.nds M.tps)) (y := arO M.q c.cells u' (M.bs ++ [b]) [⟨0, 0, 0, tp⟩]) (by simp [cxL]) (by rw [Hbs.out]; exact hs5) (by rw [Hbs.out]; exact hA5) (arO_ob _ _ _ _ _)
  simp only [cxL, List.cons_append, List.set_cons_succ, List.set_cons_zero] at hS5
  have HS5 := Lib.hid hS5
  clear hS5 hS4 hA4 hT hA5 hs5 hf4 HS3
  have q5 : ∀ u : InW (Fr NoF w5), u.to.cell? ⟨p, 1, none⟩ = some (.pointer (some ⟨M.q, 0, none⟩)) := fun u => u.ok.cell_ (w := w5) ((cell_of (HS5.out.st.get (x := blkO p 62 (ctxVals M.q M.hv c)) (by simp)) 1).trans rfl) (fun x => x)
  repeat (first | (refine miz_skip (by rfl) ?_; (simp only [Act.put, List.setIfInBounds_toArray, List.set_cons_zero, List.set_cons_succ])) | (refine miz_step (by rfl) ?_; apply Exists.intro; refine ⟨fun u => ?_, ?_⟩; (focus (first | (unfold quietF; go_simp; first | done | exact ⟨rfl, rfl⟩))); (simp only [Act.put, List.setIfInBounds_toArray, List.set_cons_zero, List.set_cons_succ])) | (refine miz_free (by rfl) ?_; apply Exists.intro; refine ⟨?_, ?_⟩; (focus (unfold quietW; intro u; go_simp; first | done | rfl)); (simp only [Act.put, List.setIfInBounds_toArray, List.set_cons_zero, List.set_cons_succ])))
  refine miz_turn (by rfl) (fun w6 hf6 K1 hK1 => ?_)
  have hS6 := HS5.out.fresh hf6
  have hb6 : w6.heap[p]? = some (.cells (ctxVals M.q M.hv c) 62 (0, 0)) := hS6.st.get (x := blkO p 62 (ctxVals M.q M.hv c)) (by simp)
  have k6 : w6.cell? ⟨p, 4, none⟩ = some (.int .i64 (rootOf c.nds : Int)) := (cell_of hb6 4).trans rfl
  have f6 := free_of hb6 4
  have hset : Fr (fun k => k = p) w6 (w6.setCell ⟨p, 4, none⟩ (.int .i64 1)) := (Fr.refl (fun k => k = p) w6).setCell ⟨p, 4, none⟩ _ (.inl rfl)
  have hS7 := hS6.turn 1 (x := blkO p 62 (ctxVals M.q M.hv c)) (y := blkO p 62 ((ctxVals M.q M.hv c).setIfInBounds 4 (.int .i64 1))) (by simp) ⟨hset, fun k hk => .inl hk⟩ (block_setCell hb6 (.int .i64 1) (off := 4)) (blkO_ob _ _ _)
  simp only [List.set_cons_succ, List.set_cons_zero] at hS7
  have HS7 := Lib.hid hS7
  clear hS6 hb6 hset hS7 hf6 HS5 q5
  go_simp
  refine hK1.out _ _ ?_
  clear hK1 K1 k6 f6
  refine miz_nil (fun w8 hf8 => ?_)
  have hS8 := HS7.out.fresh hf8
  have k8 : w8.cell? ⟨p, 4, none⟩ = some (.int .i64 1) := (cell_of (hS8.st.get (x := blkO p 62 ((ctxVals M.q M.hv c).setIfInBounds 4 (.int .i64 1))) (by simp)) 4).trans rfl
  have hrow : (w8.alloc (.cells #[.int .i64 1] 3)).ownsRow 0 3 1 (.slice (some ⟨w8.heap.size, 0, none⟩) 1 1) 1 (intsV [1]) := ⟨rfl, .inr ⟨_, 1, _, rfl, Nat.zero_le _, heap_alloc_new w8 _, Nat.le_refl _, by decide, rfl, rfl⟩⟩
  have hS9 := hS8.swap (y := rowO (.slice (some ⟨w8.heap.size, 0, none⟩) 1 1) (0 + 1) [1]) ((Fr.refl NoF w8).alloc (.cells #[.int .i64 1] 3)) hrow (rowO_ob _ _ _) (fun k hk => by
    have : w8.heap.size = k := by simpa [rowO, Value.ownBlock] using hk
    omega)
  have HS9 := Lib.hid hS9
  clear hS9 hrow hS8 hf8 HS7
  go_wp2
  go_ret
  obtain ⟨M', h1, h2⟩ := Hclose.out _ _ _ _ _ _ HS9.out (Hnv1.out tp).symm
  exact ⟨_, M', rfl, h1, h2⟩
end Go.Proofs.Ytopnnbhiehljlaa
