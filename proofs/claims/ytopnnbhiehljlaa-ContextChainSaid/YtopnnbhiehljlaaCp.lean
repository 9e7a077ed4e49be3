/- Layer 18 (context): the path of the last bytes, and what is asked of it. -/
import Derived.Test.YtopnnbhiehljlaaCo
namespace Go.Proofs.Ytopnnbhiehljlaa
set_option linter.unusedVariables false
open Go.RowKit Go.My Go.Cx

set_option maxHeartbeats 2000000 in
set_option maxRecDepth 100000 in
theorem cx_back {w : World} {p : Nat} {M : Mm} {c : C} (h : CoreAt w p M c) (hOk : c.Ok) (n : Nat) (h1 : 1 ≤ n) (hn : n ≤ c.hist.length) :
    Calls Try.prog 50 #[.pointer (some ⟨p, 0, none⟩), .int .i64 (n : Int)] w fun e w' => e = .returned (.int .u8 ((c.hist.getD (c.hist.length - n) 0).toNat : Int)) ∧ Fr NoF w w' := by
  obtain ⟨_, _, _, _, _, c5, _⟩ := h.cells
  have hl := hOk.hl
  have h16 := hOk.ord16
  rcases h.hist with ⟨_, h0⟩ | ⟨g, off, cap, cur, hx⟩
  · rw [h0] at hn
    simp at hn
    omega
  · have hv := hx.val
    rw [hv] at c5
    have hd := hx.cell (j := c.hist.length - n) (by omega)
    obtain ⟨L, hL⟩ : ∃ L, c.hist.length = L := ⟨_, rfl⟩
    rw [hL] at c5 hd hn hl ⊢
    obtain ⟨d, hdd⟩ : ∃ d, L - n = d := ⟨_, rfl⟩
    rw [hdd] at hd ⊢
    obtain ⟨b, hb⟩ : ∃ b, (c.hist.getD d 0).toNat = b := ⟨_, rfl⟩
    rw [hb] at hd ⊢
    have em : IntKind.i64.wrap ((L : Int) - (n : Int)) = (d : Int) := by rw [IntWalk.i64_in _ (by omega)]; omega
    have d0 : (0 : Int) ≤ (d : Int) := by omega
    have d1 : (d : Int) < (L : Int) := by omega
    have q5 : ∀ u : InW (Fr NoF w.drew), u.to.cell? ⟨p, 5, none⟩ = some (.slice (some ⟨g, off, none⟩) L cap) := fun u => u.ok.cell_ (w := w.drew) c5 (fun x => x)
    have qd : ∀ u : InW (Fr NoF w.drew), u.to.cell? ⟨g, off + d, none⟩ = some (.int .u8 (b : Int)) := fun u => u.ok.cell_ (w := w.drew) hd (fun x => x)
    clear h hOk hx hv hL hdd hb hd c5 hl h16 hn h1
    go_enter Try.func50, Try.ntmps50
    go_upto_region 1 with fail
    refine wp_region_plan [(0, 1), (1, 1), (2, 1), (3, 1), (4, 1), (5, 1), (6, 1), (7, 1), (8, 1), (9, 1), (10, 1), (11, 1), (12, 1), (13, 1)] (by kernel_rfl) (by kernel_rfl) ?_
    simp only [planZ, List.getElem?_cons_zero, List.getElem?_cons_succ]
    repeat (first | (refine miz_skip (by rfl) ?_; (simp only [Act.put, List.setIfInBounds_toArray, List.set_cons_zero, List.set_cons_succ])) | (refine miz_step (by rfl) ?_; apply Exists.intro; refine ⟨fun u => ?_, ?_⟩; (focus (first | (unfold quietF; go_simp; first | done | exact ⟨rfl, rfl⟩))); (simp only [Act.put, List.setIfInBounds_toArray, List.set_cons_zero, List.set_cons_succ])) | (refine miz_free (by rfl) ?_; apply Exists.intro; refine ⟨?_, ?_⟩; (focus (unfold quietW; intro u; go_simp; first | done | rfl)); (simp only [Act.put, List.setIfInBounds_toArray, List.set_cons_zero, List.set_cons_succ])))
    refine miz_nil (fun w2 hf2 => ?_)
    have hfin := (Fr.refl NoF w).drew.trans hf2 (fun _ h => .inl h)
    clear hf2 q5 qd
    go_wp2
    go_ret
    exact ⟨rfl, hfin⟩

/-- The cells of the last bytes' texts. -/
def ids (c : C) (n : Nat) : List Nat := (List.range n).map fun k => idOf c.nds (suf c.hist k)
theorem ids_length (c : C) (n : Nat) : (ids c n).length = n := by simp [ids]
theorem ids_snoc (c : C) (n : Nat) : ids c (n + 1) = ids c n ++ [idOf c.nds (suf c.hist n)] := by simp [ids, List.range_succ]
theorem ids_get (c : C) (n k : Nat) (h : k < n) : (ids c n).getD k 0 = idOf c.nds (suf c.hist k) := by simp [ids, List.getD, h]
theorem idOf_place {l : List Nd} {t : List UInt8} (h : has l t = true) : idOf l t = place l t + 1 := by unfold idOf; rw [if_pos h]
theorem row_at {w : World} {B n g cap : Nat} {l : List Nat} (h : w.ownsRow B 3 1 (.slice (some ⟨g, 0, none⟩) n cap) n (intsV l)) {k : Nat} (hk : k < n) : w.cell? ⟨g, k, none⟩ = some (.int .i64 ((l.getD k 0 : Nat) : Int)) := by
  have hl : l.length = n := by have := h.1; simp [intsV] at this; omega
  have := World.ownsRow.cells h (g := g) rfl k _ (intsV_get (by omega))
  rwa [add_plain0] at this
theorem root_plen {c : C} (h : c.Ok) : 0 < c.plen ↔ c.nds ≠ [] := by
  have h1 := h.has_iff (k := 0) (Nat.zero_le _)
  rw [suf_zero, h.good.root, decide_eq_true_eq] at h1
  rw [← h1]
  cases c.nds <;> simp

set_option maxHeartbeats 4000000 in
set_option maxRecDepth 100000 in
theorem cx_path {w : World} {p : Nat} {M : Mm} {c : C} (h : CoreAt w p M c) (hOk : c.Ok) :
    Calls Try.prog 27 #[.pointer (some ⟨p, 0, none⟩)] w fun e w' => ∃ v, e = .returned v ∧ w'.ownsRow w.heap.size 3 1 v c.plen (intsV (ids c c.plen)) ∧ Fr NoF w w' := by
  obtain ⟨c0, _, _, _, c4, c5, _⟩ := h.cells
  have hrp := root_plen hOk
  by_cases hne : c.nds = []
  · have hz : c.plen = 0 := by
      rcases Nat.eq_zero_or_pos c.plen with h0 | h0
      · exact h0
      · exact absurd hne (hrp.1 h0)
    unfold rootOf at c4
    rw [if_pos hne] at c4
    rw [hz]
    clear h hOk hrp hne hz c0 c5
    go_enter Try.func27, Try.ntmps27
    go_wp2
    go_ret
    exact ⟨_, rfl, ⟨rfl, .inl ⟨rfl, rfl⟩⟩, Fr.refl _ _⟩
  · have hpos := hrp.2 hne
    unfold rootOf at c4
    rw [if_neg hne] at c4
    obtain ⟨i0, hi, hz0, hz1, hz2⟩ := info_parts signs_info3
    have h16 := hOk.ord16
    have hlo := hOk.hl
    have hml := c.plen_le
    have hmm := c.m_le
    have hmd : min (c.ord : Int) (c.hist.length : Int) = (c.m : Int) := by unfold C.m; omega
    obtain ⟨av, capv, hv⟩ := h.hist.any c.hist.length rfl
    rw [hv] at c5
    have H := Lib.hid h
    have HOk := Lib.hid hOk
    have Hi := Lib.hid hi
    have Hz0 := Lib.hid hz0
    have Hz1 := Lib.hid hz1
    have Hz2 := Lib.hid hz2
    have hroot : idOf c.nds (suf c.hist 0) = 1 := by
      rw [suf_zero]
      have h0 : 0 < c.nds.length := by cases hc : c.nds with
        | nil => exact absurd hc hne
        | cons a b => simp
      have := idOf_of hOk.good.nodup h0
      rwa [hOk.good.first h0] at this
    have hrow : (w.alloc (.cells #[.int .i64 1] 3)).ownsRow w.heap.size 3 1 (.slice (some ⟨w.heap.size, 0, none⟩) 1 1) 1 (intsV (ids c 1)) := by
      have e : intsV (ids c 1) = [.int .i64 1] := by simp [ids, intsV, hroot]
      rw [e]
      exact ⟨rfl, .inr ⟨_, 1, _, rfl, Nat.le_refl _, heap_alloc_new w _, Nat.le_refl _, by decide, rfl, rfl⟩⟩
    have hst : ∃ W g, w.alloc (.cells #[.int .i64 1] 3) = W ∧ w.heap.size = g ∧ Fr NoF w W ∧ W.ownsRow g 3 1 (.slice (some ⟨g, 0, none⟩) 1 1) 1 (intsV (ids c 1)) := ⟨_, _, rfl, rfl, (Fr.refl _ _).alloc _, hrow⟩
    obtain ⟨W, g0, hW, hg, hF, hR⟩ := hst
    have HF := Lib.hid hF
    have HR := Lib.hid hR
    have Hg := Lib.hid hg
    clear h hOk hrp hne hi hz0 hz1 hz2 hroot hrow hF hR hv
    obtain ⟨m, hm⟩ : ∃ m, c.m = m := ⟨_, rfl⟩
    rw [hm] at hml hmm hmd
    obtain ⟨PL, hPL⟩ : ∃ P, c.plen = P := ⟨_, rfl⟩
    rw [hPL] at hpos hml ⊢
    have hmd2 : (if c.hist.length < c.ord then (c.hist.length : Int) else (c.ord : Int)) = (c.m : Int) := by unfold C.m; split <;> omega
    rw [hm] at hmd2
    obtain ⟨HL, hHL⟩ : ∃ L, c.hist.length = L := ⟨_, rfl⟩
    rw [hHL] at hmm hmd c5 hlo hmd2
    have Hm := Lib.hid hm
    have HPL := Lib.hid hPL
    have HHL := Lib.hid hHL
    have hm16 : m ≤ 16 := by omega
    have hmI : (m : Int) ≤ 16 := by omega
    clear hm hPL hHL
    go_enter Try.func27, Try.ntmps27
    go_upto_region 4 with fail
    clear hW c4 hg
    go_upto_region 5 with fail
    go_loopw [3, 4, 5] (fun v3 v4 _ wr => ∃ n : Nat, 1 ≤ n ∧ n ≤ PL ∧ v4 = .int .i64 (n : Int) ∧ Hid (wr.ownsRow g0 3 1 v3 n (intsV (ids c n))) ∧ Hid (Fr NoF w wr)) (fun _ v4 _ _ => PL - (intOf v4).toNat)
    case atStart => exact ⟨1, Nat.le_refl _, hpos, rfl, HR, HF⟩
    case round =>
      clear HF HR
      obtain ⟨n, hn1, hnP, rfl, KR, KF⟩ := hrel
      obtain ⟨g, cap, hv3⟩ := own_slice KR.out (by omega)
      subst hv3
      have q0 : ∀ u : InW (Fr NoF wr.drew), u.to.cell? ⟨p, 0, none⟩ = some (.int .i64 (c.ord : Int)) := fun u => u.ok.cell_ (w := wr.drew) (KF.out.cell_ c0 (fun x => x)) (fun x => x)
      have q5 : ∀ u : InW (Fr NoF wr.drew), u.to.cell? ⟨p, 5, none⟩ = some (.slice av HL capv) := fun u => u.ok.cell_ (w := wr.drew) (KF.out.cell_ c5 (fun x => x)) (fun x => x)
      by_cases hnm : n ≤ m
      · have hI : (n : Int) ≤ (m : Int) := by omega
        go_upto_region 5 with fail
        refine wp_region_plan [(0, 1), (1, 1), (2, 1), (3, 1), (4, 1), (5, 1), (6, 1), (7, 1), (8, 1), (9, 1), (10, 1), (11, 1)] (by kernel_rfl) (by kernel_rfl) ?_
        simp only [planZ, List.getElem?_cons_zero, List.getElem?_cons_succ]
        repeat (first | (refine miz_skip (by rfl) ?_; (simp only [Act.put, List.setIfInBounds_toArray, List.set_cons_zero, List.set_cons_succ])) | (refine miz_step (by rfl) ?_; apply Exists.intro; refine ⟨fun u => ?_, ?_⟩; (focus (first | (unfold quietF; go_simp; first | done | exact ⟨rfl, rfl⟩))); (simp only [Act.put, List.setIfInBounds_toArray, List.set_cons_zero, List.set_cons_succ])) | (refine miz_free (by rfl) ?_; apply Exists.intro; refine ⟨?_, ?_⟩; (focus (unfold quietW; intro u; go_simp; first | done | rfl)); (simp only [Act.put, List.setIfInBounds_toArray, List.set_cons_zero, List.set_cons_succ])))
        refine miz_nil (fun w2 hf2 => ?_)
        clear q0 q5
        have hF2 : Fr NoF w w2 := (KF.out.drew).trans hf2 (fun _ h => .inl h)
        have hR2 := own_keep KR.out ((Fr.refl NoF wr).drew.trans hf2 (fun _ h => .inl h)) (fun _ _ x => x)
        have HF2 := Lib.hid hF2
        have HR2 := Lib.hid hR2
        clear hf2 hF2 hR2 KR KF
        have hprev : n - 1 < PL := by omega
        have hhas := c.plen_has (k := n - 1) (by rw [HPL.out]; exact hprev)
        obtain ⟨hp1, hp2⟩ := place_txt hhas
        obtain ⟨j, hj⟩ : ∃ j, place c.nds (suf c.hist (n - 1)) = j := ⟨_, rfl⟩
        rw [hj] at hp1 hp2
        have hback := fun (u : InW (Fr NoF w2.drew)) => cx_back (H.out.keep (HF2.out.drew.trans u.ok (fun _ h => .inl h)) (fun _ _ x => x)) HOk.out n hn1 (by rw [HHL.out]; omega)
        have hbel := fun (u : InW (Fr NoF w2.drew)) (s : UInt8) => cx_below (H.out.keep (HF2.out.drew.trans u.ok (fun _ h => .inl h)) (fun _ _ x => x)) HOk.out j hp1 s
        obtain ⟨s, hs⟩ : ∃ s, c.hist.getD (c.hist.length - n) 0 = s := ⟨_, rfl⟩
        rw [hs] at hback
        have hsuf : s :: txtAt c.nds j = suf c.hist n := by
          have h1 := suf_succ (h := c.hist) (k := n - 1) (by rw [HHL.out]; omega)
          rw [show n - 1 + 1 = n by omega, hs] at h1
          rw [hp2, h1]
        have hbel2 := fun u => hbel u s
        rw [hsuf] at hbel2
        have hcell := row_at HR2.out (k := n - 1) (by omega)
        rw [ids_get c n (n - 1) (by omega), idOf_place hhas, hj] at hcell
        have hcj : ((j + 1 : Nat) : Int) = (j : Int) + 1 := by omega
        rw [hcj] at hcell
        have qc : ∀ u : InW (Fr NoF w2.drew), u.to.cell? ⟨g, n - 1, none⟩ = some (.int .i64 ((j : Int) + 1)) := fun u => u.ok.cell_ (w := w2.drew) hcell (fun x => x)
        have em : IntKind.i64.wrap ((n : Int) - 1) = ((n - 1 : Nat) : Int) := by rw [IntWalk.i64_in _ (by omega)]; omega
        have hn0 : (0 : Int) ≤ ((n - 1 : Nat) : Int) := by omega
        have hn2 : ((n - 1 : Nat) : Int) < (n : Int) := by omega
        obtain ⟨r, hr⟩ : ∃ r, n - 1 = r := ⟨_, rfl⟩
        rw [hr] at qc em hn0 hn2
        have hiff := HOk.out.has_iff (k := n) (by rw [Hm.out]; exact hnm)
        rw [HPL.out] at hiff
        obtain ⟨I, hI2⟩ : ∃ I, idOf c.nds (suf c.hist n) = I := ⟨_, rfl⟩
        have hsn := ids_snoc c n
        rw [hI2] at hbel2 hsn
        have hpi : 0 < I ↔ n < PL := by rw [← hI2, idOf_pos, hiff]
        have Hback := Lib.hid hback
        have Hbel := Lib.hid hbel2
        have Hsn := Lib.hid hsn
        have Hpi := Lib.hid hpi
        have hsz : g0 ≤ w2.heap.size := by have := HF2.out.size; have := Hg.out; omega
        have hIl : I ≤ 1048576 := by
          have h1 := idOf_le c.nds (suf c.hist n)
          have h2 := HOk.out.room
          unfold used at h2
          have h3 := HOk.out.hi
          omega
        have Hsz := Lib.hid hsz
        clear hprev hhas hp1 hp2 hj hback hbel hs hsuf hbel2 hcell hcj hr hiff hI2 hsn hpi hsz
        go_upto_region 7 with fail
        refine wp_region_plan [(0, 1), (1, 1), (2, 1), (3, 1), (4, 1), (5, 1), (6, 1), (7, 1), (8, 1), (9, 1), (10, 1)] (by kernel_rfl) (by kernel_rfl) ?_
        simp only [planZ, List.getElem?_cons_zero, List.getElem?_cons_succ]
        repeat (first | (refine miz_skip (by rfl) ?_; (simp only [Act.put, List.setIfInBounds_toArray, List.set_cons_zero, List.set_cons_succ])) | (refine miz_step (by rfl) ?_; apply Exists.intro; refine ⟨fun u => ?_, ?_⟩; (focus (first | (unfold quietF; go_simp; first | done | exact ⟨rfl, rfl⟩ | (refine ⟨rfl, ?_⟩; (first | (go_at_call 50; exact Hback.out u) | (go_at_call 49; exact (Hbel.out u).mono fun e w' ⟨h1, h2⟩ => ⟨h1, by rw [← h2]; exact Fr.refl _ _⟩)))))); (simp only [Act.put, List.setIfInBounds_toArray, List.set_cons_zero, List.set_cons_succ])) | (refine miz_free (by rfl) ?_; apply Exists.intro; refine ⟨?_, ?_⟩; (focus (unfold quietW; intro u; go_simp; first | done | rfl)); (simp only [Act.put, List.setIfInBounds_toArray, List.set_cons_zero, List.set_cons_succ])))
        refine miz_nil (fun w3 hf3 => ?_)
        have hF3 : Fr NoF w w3 := (HF2.out.drew).trans hf3 (fun _ h => .inl h)
        have hR3 := own_keep HR2.out ((Fr.refl NoF w2).drew.trans hf3 (fun _ h => .inl h)) (fun _ _ x => x)
        have hsz3 : g0 ≤ w3.heap.size := Nat.le_trans Hsz.out ((Fr.refl NoF w2).drew.trans hf3 (fun _ h => .inl h)).size
        have HF3 := Lib.hid hF3
        have HR3 := Lib.hid hR3
        have Hsz3 := Lib.hid hsz3
        clear hf3 hF3 hR3 hsz3 qc em HF2 HR2 Hback Hbel Hsz hn0 hn2
        rcases Nat.eq_zero_or_pos I with hI0 | hI0
        · subst hI0
          have hnP2 : n = PL := by have := Hpi.out; omega
          subst hnP2
          clear Hpi
          go_wp2
          go_ret
          exact ⟨_, rfl, by rw [Hg.out]; exact HR3.out, HF3.out⟩
        · have hnlt := Hpi.out.1 hI0
          have hIne : ((I : Int) == 0) = false := by
            have : ¬ ((I : Int) = 0) := by omega
            simpa using this
          have hg0le : g0 ≤ w3.heap.size := Hsz3.out
          have hIe : (I : Int) ≤ 1048576 := by omega
          clear Hpi hg0le
          go_wp2_with (at_builtin; refine wpList_append_my _ rfl _ _ 40 rfl g0 3 i0 (.int .i64 0) 1 8 Try.underlying40 Hi.out Hz0.out Hz1.out Hz2.out rfl (by decide) (.slice (some ⟨g, 0, none⟩) n cap) n _ (by rfl) (HR3.out.alloc _) ⟨w3.heap.size, 0, none⟩ 1 1 [.int .i64 (I : Int)] (by rfl) (by rfl) (World.news_of_block (cs := #[.int .i64 (I : Int)]) (t := 3) (fr := (0, 0)) (heap_alloc_new _ _)) (by simp [Value.oneCell']) (by decide) (by unfold maxLen; omega) (by omega) (by have := Hsz3.out; simp; omega) _ rfl ?_; intro g2 cap2 w6 hown hgrow hat hlt2 hsame; have IB := Lib.hid hown; have IF : Hid (Fr NoF w w6) := Lib.hid ((HF3.out.alloc _).grown hgrow (fun k hk => .inr (by have := own_base HR3.out hk; have := Hg.out; omega))); clear hown hgrow hat hlt2 hsame)
          go_roundw
          case rel =>
            refine ⟨n + 1, by omega, hnlt, by go_num, ?_, IF⟩
            rw [Hsn.out]
            simpa [intsV] using IB
          case measure => simp [intOf]; omega
      · have hI : ¬ (n : Int) ≤ (m : Int) := by omega
        go_upto_region 5 with fail
        refine wp_region_plan [(0, 1), (1, 1), (2, 1), (3, 1), (4, 1), (5, 1), (6, 1), (7, 1), (8, 1), (9, 1), (10, 1), (11, 1)] (by kernel_rfl) (by kernel_rfl) ?_
        simp only [planZ, List.getElem?_cons_zero, List.getElem?_cons_succ]
        repeat (first | (refine miz_skip (by rfl) ?_; (simp only [Act.put, List.setIfInBounds_toArray, List.set_cons_zero, List.set_cons_succ])) | (refine miz_step (by rfl) ?_; apply Exists.intro; refine ⟨fun u => ?_, ?_⟩; (focus (first | (unfold quietF; go_simp; first | done | exact ⟨rfl, rfl⟩))); (simp only [Act.put, List.setIfInBounds_toArray, List.set_cons_zero, List.set_cons_succ])) | (refine miz_free (by rfl) ?_; apply Exists.intro; refine ⟨?_, ?_⟩; (focus (unfold quietW; intro u; go_simp; first | done | rfl)); (simp only [Act.put, List.setIfInBounds_toArray, List.set_cons_zero, List.set_cons_succ])))
        refine miz_nil (fun w2 hf2 => ?_)
        clear q0 q5
        have hF2 : Fr NoF w w2 := (KF.out.drew).trans hf2 (fun _ h => .inl h)
        have hR2 := own_keep KR.out ((Fr.refl NoF wr).drew.trans hf2 (fun _ h => .inl h)) (fun _ _ x => x)
        have hnP2 : n = PL := by omega
        subst hnP2
        have HF2 := Lib.hid hF2
        have HR2 := Lib.hid hR2
        clear hf2 hF2 hR2 KR KF
        go_wp2
        go_ret
        exact ⟨_, rfl, by rw [Hg.out]; exact HR2.out, HF2.out⟩
end Go.Proofs.Ytopnnbhiehljlaa
