/- Layer 18 (context): Longest, Table, Left, Restarts, and what a sign needs. -/
import Derived.Test.YtopnnbhiehljlaaCp
namespace Go.Proofs.Ytopnnbhiehljlaa
set_option linter.unusedVariables false
open Go.RowKit Go.My Go.Cx

set_option maxHeartbeats 1000000 in
theorem cx_longest {w : World} {p : Nat} {M : Mm} {c : C} (h : CoreAt w p M c) (hOk : c.Ok) :
    Calls Try.prog 11 #[.pointer (some ⟨p, 0, none⟩)] w fun e w' => e = .returned (.int .i64 ((c.plen : Int) - 1)) ∧ Fr NoF w w' := by
  have hp := cx_path h hOk
  have hml := c.plen_le
  have hmm := c.m_le
  have h16 := hOk.ord16
  obtain ⟨PL, hPL⟩ : ∃ P, c.plen = P := ⟨_, rfl⟩
  rw [hPL] at hp hml ⊢
  have hb : (PL : Int) ≤ 17 := by omega
  have Hp := Lib.hid hp
  clear hp hPL hml hmm h16 h hOk
  go_enter Try.func11, Try.ntmps11
  go_wp2_with (go_at_call 27; refine Hp.out.mono ?_; rintro e w1 ⟨v, rfl, hr, hf⟩; obtain ⟨a, cap, hv⟩ := own_any hr; subst hv; clear hr)
  go_ret
  exact ⟨rfl, hf⟩
theorem cx_longest_nil (w : World) : Calls Try.prog 11 #[.pointer none] w fun e w' => e = .returned (.int .i64 (-1)) ∧ w = w' := by
  go_enter Try.func11, Try.ntmps11
  go_wp2
  go_ret
  exact ⟨rfl, rfl⟩
theorem cx_left_nil (w : World) : Calls Try.prog 13 #[.pointer none] w fun e w' => e = .returned (.int .i64 0) ∧ w = w' := by
  go_enter Try.func13, Try.ntmps13
  go_wp2
  go_ret
  exact ⟨rfl, rfl⟩
theorem cx_restarts_nil (w : World) : Calls Try.prog 18 #[.pointer none] w fun e w' => e = .returned (.int .i64 0) ∧ w = w' := by
  go_enter Try.func18, Try.ntmps18
  go_wp2
  go_ret
  exact ⟨rfl, rfl⟩
theorem cx_table_nil (k : Int) (w : World) : Calls Try.prog 12 #[.pointer none, .int .i64 k] w fun e w' => e = .returned (.pointer none) ∧ w = w' := by
  go_enter Try.func12, Try.ntmps12
  go_wp2
  go_ret
  exact ⟨rfl, rfl⟩
theorem cx_learn_nil (x k : Int) (w : World) : Calls Try.prog 10 #[.pointer none, .int .u8 x, .int .i64 k] w fun e w' => e = .returned (.tuple #[]) ∧ w = w' := by
  go_enter Try.func10, Try.ntmps10
  go_wp2
  refine bodyPost_ret (results_none rfl _ _ _) rfl ?_
  exact ⟨rfl, rfl⟩
theorem cx_restarts {w : World} {p : Nat} {M : Mm} {c : C} (h : CoreAt w p M c) :
    Calls Try.prog 18 #[.pointer (some ⟨p, 0, none⟩)] w fun e w' => e = .returned (.int .i64 (c.restarts : Int)) ∧ w = w' := by
  obtain ⟨_, _, _, _, _, _, c6⟩ := h.cells
  clear h
  go_enter Try.func18, Try.ntmps18
  go_wp2
  go_ret
  exact ⟨rfl, rfl⟩

set_option maxHeartbeats 2000000 in
set_option maxRecDepth 100000 in
theorem cx_table_some {w : World} {p : Nat} {M : Mm} {c : C} (h : CoreAt w p M c) (hOk : c.Ok) (k : Nat) (hk : k < c.plen) :
    Calls Try.prog 12 #[.pointer (some ⟨p, 0, none⟩), .int .i64 (k : Int)] w fun e w' => e = .returned (.pointer (some ⟨M.tps.getD (place c.nds (suf c.hist k)) 0, 0, none⟩)) ∧ Fr NoF w w' := by
  obtain ⟨_, c1, _, _, _, _, _⟩ := h.cells
  have hp := cx_path h hOk
  have hml := c.plen_le
  have hmm := c.m_le
  have h16 := hOk.ord16
  have hhas := c.plen_has hk
  have hpl := (place_txt hhas).1
  have hid := idOf_place hhas
  have hget := ids_get c c.plen k hk
  rw [hid] at hget
  obtain ⟨j, hj⟩ : ∃ j, place c.nds (suf c.hist k) = j := ⟨_, rfl⟩
  rw [hj] at hpl hget ⊢
  obtain ⟨tj, htj⟩ : ∃ t, M.tps.getD j 0 = t := ⟨_, rfl⟩
  rw [htj]
  have Htj := Lib.hid htj
  obtain ⟨IL, hIL⟩ : ∃ IL, ids c c.plen = IL := ⟨_, rfl⟩
  rw [hIL] at hp hget
  obtain ⟨PL, hPL⟩ : ∃ P, c.plen = P := ⟨_, rfl⟩
  rw [hPL] at hp hml hk
  have hb : (PL : Int) ≤ 17 := by omega
  have hkI : (k : Int) < (PL : Int) := by omega
  have hk0 : (0 : Int) ≤ (k : Int) := by omega
  have Hp := Lib.hid hp
  have H := Lib.hid h
  have Hget := Lib.hid hget
  have Hk := Lib.hid hk
  have Hpl := Lib.hid hpl
  clear hp hPL hml hmm h16 h hOk hhas hid hget hj hIL hk hpl htj
  go_enter Try.func12, Try.ntmps12
  go_upto_region 4 with (go_at_call 27; refine Hp.out.mono ?_; rintro e w1 ⟨v, rfl, hr, hf⟩; have HR := Lib.hid hr; have HF := Lib.hid hf; obtain ⟨a, cap, hv⟩ := own_any hr; subst hv; clear hr hf)
  obtain ⟨g, cap2, hv⟩ := own_slice HR.out (by have := Hk.out; omega)
  injection hv with hv _ _
  subst hv
  have hcell := row_at HR.out Hk.out
  rw [Hget.out] at hcell
  have hcj : ((j + 1 : Nat) : Int) = (j : Int) + 1 := by omega
  rw [hcj] at hcell
  have H1 := H.out.keep HF.out (fun _ _ x => x)
  have hat := fun (u : InW (Fr NoF w1.drew)) => (H1.keep ((Fr.refl NoF w1).drew.trans u.ok (fun _ h => .inl h)) (fun _ _ x => x)).at_ Hpl.out
  have q1 : ∀ u : InW (Fr NoF w1.drew), u.to.cell? ⟨p, 1, none⟩ = some (.pointer (some ⟨M.q, 0, none⟩)) := fun u => u.ok.cell_ (w := w1.drew) (HF.out.cell_ c1 (fun x => x)) (fun x => x)
  have qk : ∀ u : InW (Fr NoF w1.drew), u.to.cell? ⟨g, k, none⟩ = some (.int .i64 ((j : Int) + 1)) := fun u => u.ok.cell_ (w := w1.drew) hcell (fun x => x)
  have qt : ∀ u : InW (Fr NoF w1.drew), u.to.cell? ⟨M.bs.getD j 0, 3, none⟩ = some (.pointer (some ⟨M.tps.getD j 0, 0, none⟩)) := fun u => u.ok.cell_ (w := w1.drew) (H1.node Hpl.out).2.2.2 (fun x => x)
  have Hat := Lib.hid hat
  rw [Htj.out] at qt
  generalize M.bs.getD j 0 = bj at *
  clear hcell hcj hat H1 c1
  go_upto_region 6 with fail
  refine wp_region_plan [(0, 1), (1, 1), (2, 1), (3, 1), (4, 1), (5, 1), (6, 1), (7, 1), (8, 1), (9, 1), (10, 1), (11, 1), (12, 1)] (by kernel_rfl) (by kernel_rfl) ?_
  simp only [planZ, List.getElem?_cons_zero, List.getElem?_cons_succ]
  repeat (first | (refine miz_skip (by rfl) ?_; (simp only [Act.put, List.setIfInBounds_toArray, List.set_cons_zero, List.set_cons_succ])) | (refine miz_step (by rfl) ?_; apply Exists.intro; refine ⟨fun u => ?_, ?_⟩; (focus (first | (unfold quietF; go_simp; first | done | exact ⟨rfl, rfl⟩ | (refine ⟨rfl, ?_⟩; (go_at_call 31; exact (Hat.out u).mono fun e w' ⟨h1, h2⟩ => ⟨h1, by rw [← h2]; exact Fr.refl _ _⟩))))); (simp only [Act.put, List.setIfInBounds_toArray, List.set_cons_zero, List.set_cons_succ])) | (refine miz_free (by rfl) ?_; apply Exists.intro; refine ⟨?_, ?_⟩; (focus (unfold quietW; intro u; go_simp; first | done | rfl)); (simp only [Act.put, List.setIfInBounds_toArray, List.set_cons_zero, List.set_cons_succ])))
  refine miz_nil (fun w2 hf2 => ?_)
  have hfin := (HF.out.drew).trans hf2 (fun _ h => .inl h)
  clear hf2 q1 qk qt Hat HR HF
  go_wp2
  go_ret
  exact ⟨rfl, hfin⟩
set_option maxHeartbeats 1000000 in
theorem cx_table_none {w : World} {p : Nat} {M : Mm} {c : C} (h : CoreAt w p M c) (hOk : c.Ok) (k : Int) (hk : k < 0 ∨ (c.plen : Int) ≤ k) :
    Calls Try.prog 12 #[.pointer (some ⟨p, 0, none⟩), .int .i64 k] w fun e w' => e = .returned (.pointer none) ∧ Fr NoF w w' := by
  have hp := cx_path h hOk
  obtain ⟨PL, hPL⟩ : ∃ P, c.plen = P := ⟨_, rfl⟩
  rw [hPL] at hp hk
  have Hp := Lib.hid hp
  clear hp hPL h hOk
  by_cases h0 : k < 0
  · go_enter Try.func12, Try.ntmps12
    go_wp2
    go_ret
    exact ⟨rfl, Fr.refl _ _⟩
  · have hge : (PL : Int) ≤ k := by omega
    have h00 : (0 : Int) ≤ k := by omega
    clear hk
    go_enter Try.func12, Try.ntmps12
    go_wp2_with (go_at_call 27; refine Hp.out.mono ?_; rintro e w1 ⟨v, rfl, hr, hf⟩; have HF := Lib.hid hf; obtain ⟨a, cap, hv⟩ := own_any hr; subst hv; clear hr hf)
    go_ret
    exact ⟨rfl, HF.out⟩

set_option maxHeartbeats 2000000 in
set_option maxRecDepth 100000 in
theorem cx_left {w : World} {p : Nat} {M : Mm} {c : C} (h : CoreAt w p M c) (hOk : c.Ok) :
    Calls Try.prog 13 #[.pointer (some ⟨p, 0, none⟩)] w fun e w' => e = .returned (.int .i64 (c.left : Int)) ∧ Fr NoF w w' := by
  obtain ⟨_, c1, c2, _, _, _, _⟩ := h.cells
  have hroom := hOk.room
  have hhi := hOk.hi
  have hl := fun (u : InW (Fr NoF w.drew)) => ar_left (h.ar.keep ((Fr.refl NoF w).drew.trans u.ok (fun _ h => .inl h)) (fun _ _ x => x))
  rw [h.bl] at hl
  have hlf : c.left = c.cells - used c.nds := rfl
  unfold used at hroom hlf
  obtain ⟨n, hn⟩ : ∃ n, c.nds.length = n := ⟨_, rfl⟩
  obtain ⟨s, hs⟩ : ∃ s, sums c.nds = s := ⟨_, rfl⟩
  rw [hn] at hl hroom hlf
  rw [hs] at c2 hroom hlf
  obtain ⟨L, hL⟩ : ∃ L, c.left = L := ⟨_, rfl⟩
  rw [hL] at hlf ⊢
  obtain ⟨d, hd⟩ : ∃ d, (c.cells : Int) - (n : Int) = d := ⟨_, rfl⟩
  rw [hd] at hl
  have em : IntKind.i64.wrap (d - (s : Int)) = (L : Int) := by rw [IntWalk.i64_in _ (by omega)]; omega
  have q1 : ∀ u : InW (Fr NoF w.drew), u.to.cell? ⟨p, 1, none⟩ = some (.pointer (some ⟨M.q, 0, none⟩)) := fun u => u.ok.cell_ (w := w.drew) c1 (fun x => x)
  have q2 : ∀ u : InW (Fr NoF w.drew), u.to.cell? ⟨p, 2, none⟩ = some (.int .i64 (s : Int)) := fun u => u.ok.cell_ (w := w.drew) c2 (fun x => x)
  have Hl := Lib.hid hl
  clear h hOk hroom hhi hl hlf hn hs hL hd c1 c2
  go_enter Try.func13, Try.ntmps13
  go_upto_region 3 with fail
  refine wp_region_plan [(0, 1), (1, 1), (2, 1), (3, 1), (4, 1), (5, 1), (6, 1), (7, 1), (8, 1), (9, 1), (10, 1)] (by kernel_rfl) (by kernel_rfl) ?_
  simp only [planZ, List.getElem?_cons_zero, List.getElem?_cons_succ]
  repeat (first | (refine miz_skip (by rfl) ?_; (simp only [Act.put, List.setIfInBounds_toArray, List.set_cons_zero, List.set_cons_succ])) | (refine miz_step (by rfl) ?_; apply Exists.intro; refine ⟨fun u => ?_, ?_⟩; (focus (first | (unfold quietF; go_simp; first | done | exact ⟨rfl, rfl⟩ | (refine ⟨rfl, ?_⟩; (go_at_call 33; exact (Hl.out u).mono fun e w' ⟨h1, k, h2⟩ => ⟨h1, by rw [h2]; exact (Fr.refl _ _).drewN k⟩))))); (simp only [Act.put, List.setIfInBounds_toArray, List.set_cons_zero, List.set_cons_succ])) | (refine miz_free (by rfl) ?_; apply Exists.intro; refine ⟨?_, ?_⟩; (focus (unfold quietW; intro u; go_simp; first | done | rfl)); (simp only [Act.put, List.setIfInBounds_toArray, List.set_cons_zero, List.set_cons_succ])))
  refine miz_nil (fun w2 hf2 => ?_)
  have hfin := ((Fr.refl NoF w).drew).trans hf2 (fun _ h => .inl h)
  clear hf2 q1 q2
  go_wp2
  go_ret
  exact ⟨rfl, hfin⟩

/-- Has a table the sign? -/
def inT (t : Fq.T) (x : UInt8) : Bool := decide (t.s.idxOf x < t.s.length)
theorem need1_has {l : List Nd} {t : List UInt8} {x : UInt8} (h : has l t = true) : need1 l t x = if inT (tabAt l (place l t)) x then 0 else 1 := by
  unfold need1 Cx.look inT
  rw [if_pos h, if_pos h]
  by_cases hx : (tabAt l (place l t)).s.idxOf x < (tabAt l (place l t)).s.length
  · rw [if_pos hx, if_pos (by simpa using hx)]
  · rw [if_neg hx, if_neg (by simpa using hx)]
theorem need1_not {l : List Nd} {t : List UInt8} {x : UInt8} (h : has l t = false) : need1 l t x = 2 := by unfold need1; rw [h]; rfl
theorem need1_le (l : List Nd) (t : List UInt8) (x : UInt8) : need1 l t x ≤ 2 := by unfold need1; split <;> (try split) <;> omega
theorem needs_le (l : List Nd) (h : List UInt8) (x : UInt8) (f : Nat) : ∀ j, needs l h x f j ≤ 2 * j
  | 0 => Nat.le_refl _
  | j + 1 => by have := needs_le l h x f j; have := need1_le l (suf h (f + j)) x; show needs l h x f j + need1 l _ x ≤ _; omega

set_option maxHeartbeats 4000000 in
set_option maxRecDepth 100000 in
theorem cx_needs {w : World} {p : Nat} {M : Mm} {c : C} (h : CxAt w p M c) (hOk : c.Ok) (Bp : Nat) (pv : Value) (hp : w.ownsRow Bp 3 1 pv c.plen (intsV (ids c c.plen))) (x : UInt8) (from_ : Nat) (hf : from_ ≤ c.m + 1) :
    Calls Try.prog 28 #[.pointer (some ⟨p, 0, none⟩), pv, .int .u8 (x.toNat : Int), .int .i64 (from_ : Int)] w fun e w' => e = .returned (.int .i64 (needs c.nds c.hist x from_ (c.m + 1 - from_) : Nat)) ∧ Fr NoF w w' := by
  obtain ⟨c0, c1, _, _, _, c5, _⟩ := h.core.cells
  have h16 := hOk.ord16
  have hlo := hOk.hl
  have hml := c.plen_le
  have hmm := c.m_le
  have hmd : min (c.ord : Int) (c.hist.length : Int) = (c.m : Int) := by unfold C.m; omega
  have hmd2 : (if c.hist.length < c.ord then (c.hist.length : Int) else (c.ord : Int)) = (c.m : Int) := by unfold C.m; split <;> omega
  obtain ⟨av, capv, hv⟩ := h.core.hist.any c.hist.length rfl
  rw [hv] at c5
  obtain ⟨ap, cp, hpv⟩ := own_any hp
  subst hpv
  have hiff : ∀ k, k ≤ c.m → (has c.nds (suf c.hist k) = true ↔ k < c.plen) := fun k hk => hOk.has_iff hk
  obtain ⟨m, hm⟩ : ∃ m, c.m = m := ⟨_, rfl⟩
  rw [hm] at hml hmm hmd hmd2 hf hiff ⊢
  obtain ⟨PL, hPL⟩ : ∃ P, c.plen = P := ⟨_, rfl⟩
  rw [hPL] at hml hp hiff ⊢
  have hget : ∀ k, k < PL → (ids c PL).getD k 0 = place c.nds (suf c.hist k) + 1 := fun k hk => by
    rw [ids_get c PL k hk]
    exact idOf_place (c.plen_has (by rw [hPL]; exact hk))
  have hplt : ∀ k, k < PL → place c.nds (suf c.hist k) < c.nds.length := fun k hk => (place_txt (c.plen_has (by rw [hPL]; exact hk))).1
  have htok : ∀ k, k < PL → (tabAt c.nds (place c.nds (suf c.hist k))).Ok := fun k hk => hOk.good.ok _ (hplt k hk)
  have hPLb : (PL : Int) ≤ 17 := by omega
  obtain ⟨HL, hHL⟩ : ∃ L, c.hist.length = L := ⟨_, rfl⟩
  rw [hHL] at hmm hmd c5 hlo hmd2
  have hm16 : m ≤ 16 := by omega
  have hmI : (m : Int) ≤ 16 := by omega
  have H := Lib.hid h
  have Hp := Lib.hid hp
  have Hiff := Lib.hid hiff
  have Hget := Lib.hid hget
  have Hplt := Lib.hid hplt
  have Htok := Lib.hid htok
  clear h hp hiff hget hplt htok hm hPL hHL hv hOk
  go_enter Try.func28, Try.ntmps28
  go_upto_region 3 with fail
  go_loopw [9, 10, 26, 33] (fun v9 v10 _ _ wr => ∃ j s : Nat, from_ + j ≤ m + 1 ∧ s ≤ 2 * j ∧ v9 = .int .i64 (s : Int) ∧ v10 = .int .i64 ((from_ + j : Nat) : Int) ∧ Hid (s = needs c.nds c.hist x from_ j) ∧ Hid (Fr NoF w wr)) (fun _ v10 _ _ _ => m + 1 - (intOf v10).toNat)
  case atStart => exact ⟨0, 0, hf, Nat.le_refl _, rfl, rfl, rfl, Fr.refl _ _⟩
  case round =>
    obtain ⟨j, s, hj, hs, rfl, rfl, KS, KF⟩ := hrel
    obtain ⟨k, hk⟩ : ∃ k, from_ + j = k := ⟨_, rfl⟩
    have hsI : (s : Int) ≤ 1000 := by omega
    have Hk := Lib.hid hk
    rw [hk] at hj ⊢
    clear hk
    have q0 : ∀ u : InW (Fr NoF wr.drew), u.to.cell? ⟨p, 0, none⟩ = some (.int .i64 (c.ord : Int)) := fun u => u.ok.cell_ (w := wr.drew) (KF.out.cell_ c0 (fun x => x)) (fun x => x)
    have q5 : ∀ u : InW (Fr NoF wr.drew), u.to.cell? ⟨p, 5, none⟩ = some (.slice av HL capv) := fun u => u.ok.cell_ (w := wr.drew) (KF.out.cell_ c5 (fun x => x)) (fun x => x)
    go_upto_region 3 with fail
    refine wp_region_plan [(0, 1), (1, 1), (2, 1), (3, 1), (4, 1), (5, 1), (6, 1), (7, 1), (8, 1), (9, 1), (10, 1), (11, 1)] (by kernel_rfl) (by kernel_rfl) ?_
    simp only [planZ, List.getElem?_cons_zero, List.getElem?_cons_succ]
    by_cases hkm : k ≤ m
    · have hI : (k : Int) ≤ (m : Int) := by omega
      have hk0 : (0 : Int) ≤ (k : Int) := by omega
      repeat (first | (refine miz_skip (by rfl) ?_; (simp only [Act.put, List.setIfInBounds_toArray, List.set_cons_zero, List.set_cons_succ])) | (refine miz_step (by rfl) ?_; apply Exists.intro; refine ⟨fun u => ?_, ?_⟩; (focus (first | (unfold quietF; go_simp; first | done | exact ⟨rfl, rfl⟩))); (simp only [Act.put, List.setIfInBounds_toArray, List.set_cons_zero, List.set_cons_succ])) | (refine miz_free (by rfl) ?_; apply Exists.intro; refine ⟨?_, ?_⟩; (focus (unfold quietW; intro u; go_simp; first | done | rfl)); (simp only [Act.put, List.setIfInBounds_toArray, List.set_cons_zero, List.set_cons_succ])))
      refine miz_nil (fun w2 hf2 => ?_)
      have HF2 : Hid (Fr NoF w w2) := Lib.hid ((KF.out.drew).trans hf2 (fun _ h => .inl h))
      clear q0 q5 hf2 KF
      have hsucc : needs c.nds c.hist x from_ (j + 1) = s + need1 c.nds (suf c.hist k) x := by
        show needs c.nds c.hist x from_ j + need1 c.nds (suf c.hist (from_ + j)) x = _
        rw [← KS.out, Hk.out]
      have hi := Hiff.out k hkm
      by_cases hkp : k < PL
      · have hhas := hi.2 hkp
        rw [need1_has hhas] at hsucc
        have hpl := Hplt.out k hkp
        have hg := Hget.out k hkp
        have htk := Htok.out k hkp
        obtain ⟨i, hi2⟩ : ∃ i, place c.nds (suf c.hist k) = i := ⟨_, rfl⟩
        rw [hi2] at hsucc hpl hg htk
        have hkI : (k : Int) < (PL : Int) := by omega
        have hR2 := own_keep Hp.out HF2.out (fun _ _ x => x)
        obtain ⟨g, cp2, hap⟩ := own_slice hR2 (by omega)
        injection hap with hap _ _
        subst hap
        have hcell := row_at hR2 hkp
        rw [hg] at hcell
        have hci : ((i + 1 : Nat) : Int) = (i : Int) + 1 := by omega
        rw [hci] at hcell
        have hC2 := H.out.fresh HF2.out
        have hat := fun (u : InW (Fr NoF w2.drew)) => (hC2.core.keep ((Fr.refl NoF w2).drew.trans u.ok (fun _ h => .inl h)) (fun _ _ x => x)).at_ hpl
        have hhs := fun (u : InW (Fr NoF w2.drew)) => tab_has _ _ _ _ x _ ((hC2.tab hpl).keep ((Fr.refl NoF w2).drew.trans u.ok (fun _ h => .inl h)) (fun _ _ x => x)) (by have := htk.size; omega)
        have hhs2 : ∀ u : InW (Fr NoF w2.drew), Calls Try.prog 14 #[.pointer (some ⟨M.tps.getD i 0, 0, none⟩), .int .u8 (x.toNat : Int)] u.to fun r w' => r = .returned (.bool (inT (tabAt c.nds i) x)) ∧ u.to = w' := hhs
        have q1 : ∀ u : InW (Fr NoF w2.drew), u.to.cell? ⟨p, 1, none⟩ = some (.pointer (some ⟨M.q, 0, none⟩)) := fun u => u.ok.cell_ (w := w2.drew) (HF2.out.cell_ c1 (fun x => x)) (fun x => x)
        have qk : ∀ u : InW (Fr NoF w2.drew), u.to.cell? ⟨g, k, none⟩ = some (.int .i64 ((i : Int) + 1)) := fun u => u.ok.cell_ (w := w2.drew) hcell (fun x => x)
        have qt : ∀ u : InW (Fr NoF w2.drew), u.to.cell? ⟨M.bs.getD i 0, 3, none⟩ = some (.pointer (some ⟨M.tps.getD i 0, 0, none⟩)) := fun u => u.ok.cell_ (w := w2.drew) (hC2.core.node hpl).2.2.2 (fun x => x)
        have Hat := Lib.hid hat
        have Hhs := Lib.hid hhs2
        obtain ⟨B, hB⟩ : ∃ B, inT (tabAt c.nds i) x = B := ⟨_, rfl⟩
        rw [hB] at hsucc Hhs
        have Hsucc := Lib.hid hsucc
        generalize M.bs.getD i 0 = bi at *
        generalize M.tps.getD i 0 = ti at *
        clear hsucc hi hhas hpl hg htk hi2 hR2 hcell hci hC2 hat hhs hhs2 hB
        go_upto_region 7 with fail
        refine wp_region_plan [(0, 1), (1, 1), (2, 1), (3, 1), (4, 1), (5, 1), (6, 1), (7, 1), (8, 1), (9, 1), (10, 1), (11, 1), (12, 1), (13, 1), (14, 1), (15, 1)] (by kernel_rfl) (by kernel_rfl) ?_
        simp only [planZ, List.getElem?_cons_zero, List.getElem?_cons_succ]
        repeat (first | (refine miz_skip (by rfl) ?_; (simp only [Act.put, List.setIfInBounds_toArray, List.set_cons_zero, List.set_cons_succ])) | (refine miz_step (by rfl) ?_; apply Exists.intro; refine ⟨fun u => ?_, ?_⟩; (focus (first | (unfold quietF; go_simp; first | done | exact ⟨rfl, rfl⟩ | (refine ⟨rfl, ?_⟩; (first | (go_at_call 31; exact (Hat.out u).mono fun e w' ⟨h1, h2⟩ => ⟨h1, by rw [← h2]; exact Fr.refl _ _⟩) | (go_at_call 14; exact (Hhs.out u).mono fun e w' ⟨h1, h2⟩ => ⟨h1, by rw [← h2]; exact Fr.refl _ _⟩)))))); (simp only [Act.put, List.setIfInBounds_toArray, List.set_cons_zero, List.set_cons_succ])) | (refine miz_free (by rfl) ?_; apply Exists.intro; refine ⟨?_, ?_⟩; (focus (unfold quietW; intro u; go_simp; first | done | rfl)); (simp only [Act.put, List.setIfInBounds_toArray, List.set_cons_zero, List.set_cons_succ])))
        refine miz_nil (fun w3 hf3 => ?_)
        have HF3 : Hid (Fr NoF w w3) := Lib.hid ((HF2.out.drew).trans hf3 (fun _ h => .inl h))
        clear hf3 q1 qk qt Hat Hhs HF2
        cases B with
        | true =>
          go_wp2
          go_roundw
          case rel => exact ⟨j + 1, s, by have := Hk.out; omega, by omega, rfl, by rw [show from_ + (j + 1) = k + 1 by have := Hk.out; omega]; go_num, Lib.hid (by rw [Hsucc.out]; rfl), HF3⟩
          case measure => simp [intOf]; omega
        | false =>
          go_wp2
          go_roundw
          case rel => exact ⟨j + 1, s + 1, by have := Hk.out; omega, by omega, by go_num, by rw [show from_ + (j + 1) = k + 1 by have := Hk.out; omega]; go_num, Lib.hid (by rw [Hsucc.out]; rfl), HF3⟩
          case measure => simp [intOf]; omega
      · have hnh : has c.nds (suf c.hist k) = false := by
          cases hh : has c.nds (suf c.hist k) with
          | false => rfl
          | true => exact absurd (hi.1 hh) hkp
        rw [need1_not hnh] at hsucc
        have Hsucc := Lib.hid hsucc
        have hkI : (PL : Int) ≤ (k : Int) := by omega
        clear hsucc hi hnh
        go_wp2
        go_roundw
        case rel => exact ⟨j + 1, s + 2, by have := Hk.out; omega, by omega, by go_num, by rw [show from_ + (j + 1) = k + 1 by have := Hk.out; omega]; go_num, Lib.hid (by rw [Hsucc.out]), HF2⟩
        case measure => simp [intOf]; omega
    · have hI : ¬ (k : Int) ≤ (m : Int) := by omega
      repeat (first | (refine miz_skip (by rfl) ?_; (simp only [Act.put, List.setIfInBounds_toArray, List.set_cons_zero, List.set_cons_succ])) | (refine miz_step (by rfl) ?_; apply Exists.intro; refine ⟨fun u => ?_, ?_⟩; (focus (first | (unfold quietF; go_simp; first | done | exact ⟨rfl, rfl⟩))); (simp only [Act.put, List.setIfInBounds_toArray, List.set_cons_zero, List.set_cons_succ])) | (refine miz_free (by rfl) ?_; apply Exists.intro; refine ⟨?_, ?_⟩; (focus (unfold quietW; intro u; go_simp; first | done | rfl)); (simp only [Act.put, List.setIfInBounds_toArray, List.set_cons_zero, List.set_cons_succ])))
      refine miz_nil (fun w2 hf2 => ?_)
      have HF2 : Hid (Fr NoF w w2) := Lib.hid ((KF.out.drew).trans hf2 (fun _ h => .inl h))
      clear q0 q5 hf2 KF
      have hje : m + 1 - from_ = j := by have := Hk.out; omega
      have Hje := Lib.hid hje
      clear hje
      go_wp2
      go_ret
      exact ⟨by rw [Hje.out, ← KS.out]; rfl, HF2.out⟩
end Go.Proofs.Ytopnnbhiehljlaa
