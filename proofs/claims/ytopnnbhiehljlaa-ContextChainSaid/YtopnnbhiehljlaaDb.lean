/- Layer 18 (context): among other objects; the law's first words. -/
import Derived.Test.YtopnnbhiehljlaaDa
namespace Go.Cx
set_option linter.unusedVariables false
open Go.Fq (T)
/-- What is learnt from none on stands behind nothing. -/
theorem put_root {c : C} {x : UInt8} (hOk : c.Ok) (hp : (c.put x 0).Ok) : 0 < (c.put x 0).plen ∧ (look (c.put x 0).nds []).s.idxOf x < (look (c.put x 0).nds []).s.length := by
  have hml := c.m_le
  have key : ∀ j, j ≤ c.m → has (lrn c.nds c.hist x 0 (j + 1)) [] = true ∧ (look (lrn c.nds c.hist x 0 (j + 1)) []).s.idxOf x < (look (lrn c.nds c.hist x 0 (j + 1)) []).s.length := by
    intro j
    induction j with
    | zero =>
      intro _
      have e : lrn c.nds c.hist x 0 1 = addAt c.nds [] x := by
        show addAt c.nds (suf c.hist (0 + 0)) x = _
        rw [suf_zero]
      rw [e, look_same, addAt_has]
      refine ⟨by simp, ?_⟩
      rw [T_add_s]
      split
      · next h => exact h
      · exact List.idxOf_lt_length_of_mem (by simp)
    | succ j ih =>
      intro hj
      obtain ⟨h1, h2⟩ := ih (by omega)
      have hg := (lrn_good hOk.good c.hist x 0 (.inl rfl) (j + 1) (by omega)).1
      have hne : ([] : List UInt8) ≠ suf c.hist (0 + (j + 1)) := fun e => by
        have := congrArg List.length e
        rw [suf_length (by omega)] at this
        simp at this
      have e : lrn c.nds c.hist x 0 (j + 1 + 1) = addAt (lrn c.nds c.hist x 0 (j + 1)) (suf c.hist (0 + (j + 1))) x := rfl
      rw [e, look_other _ _ _ _ hg.nodup hne, addAt_has, h1]
      exact ⟨rfl, h2⟩
  obtain ⟨h1, h2⟩ := key c.m (Nat.le_refl _)
  have e : (c.put x 0).nds = lrn c.nds c.hist x 0 (c.m + 1) := rfl
  refine ⟨(hp.has_iff (Nat.zero_le _)).1 (by rw [suf_zero, e]; exact h1), by rw [e]; exact h2⟩
theorem learn_root {c : C} (hOk : c.Ok) (x : UInt8) : 0 < (c.learn x 0).plen ∧ (tabAt (c.learn x 0).nds (place (c.learn x 0).nds [])).s.idxOf x < (tabAt (c.learn x 0).nds (place (c.learn x 0).nds [])).s.length := by
  have hl := C.learn_ok hOk x 0 (Nat.zero_le _)
  have h1 : 0 < (c.learn x 0).plen ∧ (look (c.learn x 0).nds []).s.idxOf x < (look (c.learn x 0).nds []).s.length := by
    by_cases h : c.left < needs c.nds c.hist x 0 (c.m + 1 - 0)
    · have e : c.learn x 0 = c.forget.put x 0 := by unfold C.learn; exact if_pos h
      rw [e] at hl ⊢
      exact put_root (C.forget_ok hOk) hl
    · have e : c.learn x 0 = c.put x 0 := by unfold C.learn; exact if_neg h
      rw [e] at hl ⊢
      exact put_root hOk hl
  have hh := (c.learn x 0).plen_has h1.1
  rw [suf_zero] at hh
  unfold look at h1
  rw [if_pos hh] at h1
  exact h1
theorem learn_restarts (c : C) (x : UInt8) (F : Nat) : (c.learn x F).restarts ≤ c.restarts + 1 := by
  unfold C.learn
  split
  · exact Nat.le_refl _
  · exact Nat.le_succ _
theorem learn_same (c : C) (x : UInt8) (F : Nat) : (c.learn x F).ord = c.ord ∧ (c.learn x F).cells = c.cells := by
  unfold C.learn
  split <;> exact ⟨rfl, rfl⟩
end Go.Cx
namespace Go.Proofs.Ytopnnbhiehljlaa
set_option linter.unusedVariables false
open Go.RowKit Go.My Go.Cx
section
variable {w wr : World} {l : List Thing}
theorem own_cnew (h : Own w wr l) (o n : Int) : Calls Try.prog 9 #[.int .i64 o, .int .i64 n] wr fun r w' => ∃ p M, r = .returned (.pointer (some ⟨p, 0, none⟩)) ∧ Own w w' (l ++ [cxO p M (C.new o n)]) :=
  (cx_new o n wr).mono fun r w' ⟨p, M, h1, h2, h3, h4⟩ => ⟨p, M, h1, h.snoc h3 h2 (cxO_ob _ _ _) h4⟩
theorem own_clearn (h : Own w wr l) (j : Nat) {p : Nat} {M : Mm} {c : C} (hx : l[j]? = some (cxO p M c)) (hOk : c.Ok) (hr : c.restarts < 1000000000) (x : UInt8) (F : Nat) (hF : F ≤ c.plen) (fi : Int) (hfi : max fi 0 = (F : Int)) :
    Calls Try.prog 10 #[.pointer (some ⟨p, 0, none⟩), .int .u8 (x.toNat : Int), .int .i64 fi] wr fun r w' => r = .returned (.tuple #[]) ∧ ∃ M', Own w w' (l.set j (cxO p M' (c.learn x F))) :=
  (cx_learn (h.get j hx) hOk hr x F hF fi hfi).mono fun r w' ⟨h1, M', h2, h3⟩ => ⟨h1, M', h.turn j hx (y := cxO p M' (c.learn x F)) h3 h2 (cxO_ob _ _ _)⟩
theorem own_cget (h : Own w wr l) (j : Nat) {p : Nat} {M : Mm} {c : C} (hx : l[j]? = some (cxO p M c)) : CxAt wr p M c := h.get j hx
end

def sp18a : C := (C.new 2 64).learn 97 0
def sp18b : C := sp18a.learn 98 0
def sp18c : C := sp18b.learn 97 0
theorem sp18_facts : sp18c.plen = 2 ∧ sp18c.left = 55 ∧ inT (tabAt sp18c.nds (place sp18c.nds (suf sp18c.hist 1))) 98 = true ∧ inT (tabAt sp18c.nds (place sp18c.nds (suf sp18c.hist 1))) 97 = false ∧ sp18b.restarts = 0 ∧ sp18a.restarts = 0 ∧ sp18c.restarts = 0 := by decide +kernel
theorem sp18_new : (C.new 2 64).plen = 0 ∧ (C.new 2 64).left = 64 ∧ (C.new 2 64).restarts = 0 := by decide +kernel

set_option maxHeartbeats 4000000 in
set_option maxRecDepth 100000 in
theorem speaks18 (w : World) : Calls Try.prog 8 #[] w fun r w' => r = .returned (.bool true) ∧ Fr NoF w w' := by
  have o0 := C.Ok.new 2 64
  have oa : sp18a.Ok := C.learn_ok o0 97 0 (Nat.zero_le _)
  have ob : sp18b.Ok := C.learn_ok oa 98 0 (Nat.zero_le _)
  have oc : sp18c.Ok := C.learn_ok ob 97 0 (Nat.zero_le _)
  obtain ⟨f1, f2, f3, f4, f5, f6, f7⟩ := sp18_facts
  obtain ⟨n1, n2, n3⟩ := sp18_new
  have hll0 := fun (wr : World) (p : Nat) (M : Mm) (h : CxAt wr p M (C.new 2 64)) => cx_longest h.core o0
  have hlf0 := fun (wr : World) (p : Nat) (M : Mm) (h : CxAt wr p M (C.new 2 64)) => cx_left h.core o0
  have hla := fun (wr : World) (l : List Thing) (h : Own w wr l) (j p : Nat) (M : Mm) (hx : l[j]? = some (cxO p M (C.new 2 64))) => own_clearn h j hx o0 (by rw [n3]; decide) 97 0 (Nat.zero_le _) (-1) (by decide)
  have hlb := fun (wr : World) (l : List Thing) (h : Own w wr l) (j p : Nat) (M : Mm) (hx : l[j]? = some (cxO p M sp18a)) => own_clearn h j hx oa (by rw [f6]; decide) 98 0 (Nat.zero_le _) (-1) (by decide)
  have hlc := fun (wr : World) (l : List Thing) (h : Own w wr l) (j p : Nat) (M : Mm) (hx : l[j]? = some (cxO p M sp18b)) => own_clearn h j hx ob (by rw [f5]; decide) 97 0 (Nat.zero_le _) 0 (by decide)
  have hll := fun (wr : World) (p : Nat) (M : Mm) (h : CxAt wr p M sp18c) => cx_longest h.core oc
  have hlf := fun (wr : World) (p : Nat) (M : Mm) (h : CxAt wr p M sp18c) => cx_left h.core oc
  have ht0 := fun (wr : World) (p : Nat) (M : Mm) (h : CxAt wr p M sp18c) => cx_table_some h.core oc 0 (by rw [f1]; decide)
  have ht1 := fun (wr : World) (p : Nat) (M : Mm) (h : CxAt wr p M sp18c) => cx_table_some h.core oc 1 (by rw [f1]; decide)
  have hhas := fun (wr : World) (p : Nat) (M : Mm) (h : CxAt wr p M sp18c) (x : UInt8) => tab_has _ _ _ _ x wr (h.tab (i := place sp18c.nds (suf sp18c.hist 1)) (place_txt (sp18c.plen_has (k := 1) (by rw [f1]; decide))).1) (by have := (oc.good.ok _ (place_txt (sp18c.plen_has (k := 1) (by rw [f1]; decide))).1).size; omega)
  have hh1 : ∀ (wr : World) (p : Nat) (M : Mm), CxAt wr p M sp18c → Calls Try.prog 14 #[.pointer (some ⟨M.tps.getD (place sp18c.nds (suf sp18c.hist 1)) 0, 0, none⟩), .int .u8 98] wr fun r w' => r = .returned (.bool true) ∧ wr = w' := fun wr p M h => by
    have := hhas wr p M h 98
    unfold inT at f3
    rw [f3] at this
    exact this
  have hh2 : ∀ (wr : World) (p : Nat) (M : Mm), CxAt wr p M sp18c → Calls Try.prog 14 #[.pointer (some ⟨M.tps.getD (place sp18c.nds (suf sp18c.hist 1)) 0, 0, none⟩), .int .u8 97] wr fun r w' => r = .returned (.bool false) ∧ wr = w' := fun wr p M h => by
    have := hhas wr p M h 97
    unfold inT at f4
    rw [f4] at this
    exact this
  rw [n1] at hll0
  rw [n2] at hlf0
  rw [f1] at hll
  rw [f2] at hlf
  have Hll0 := Lib.hid hll0
  have Hlf0 := Lib.hid hlf0
  have Hla := Lib.hid hla
  have Hlb := Lib.hid hlb
  have Hlc := Lib.hid hlc
  have Hll := Lib.hid hll
  have Hlf := Lib.hid hlf
  have Ht0 := Lib.hid ht0
  have Ht1 := Lib.hid ht1
  have Hh1 := Lib.hid hh1
  have Hh2 := Lib.hid hh2
  clear o0 oa ob oc f1 f2 f3 f4 f5 f6 f7 n1 n2 n3 hll0 hlf0 hla hlb hlc hll hlf ht0 ht1 hhas hh1 hh2
  go_enter Try.func8, Try.ntmps8
  go_upto_region 2 with (go_at_call 9; refine (own_cnew (Own.nil w) 2 64).mono ?_; rintro r w1 ⟨p, M, rfl, h⟩; have H1 : Hid (Own w w1 [cxO p M (C.new 2 64)]) := Lib.hid h; clear h)
  go_upto_region 4 with (first
    | (go_at_call 11; refine (Hll0.out _ p M (H1.out.get (x := cxO p M (C.new 2 64)) 0 rfl)).mono ?_; rintro r w2 ⟨rfl, hf⟩; have H2 := Lib.hid (H1.out.fresh hf); clear hf)
    | (go_at_call 13; refine (Hlf0.out _ p M (H2.out.get (x := cxO p M (C.new 2 64)) 0 rfl)).mono ?_; rintro r w3 ⟨rfl, hf⟩; have H3 := Lib.hid (H2.out.fresh hf); clear hf))
  go_upto_region 5 with (go_at_call 10; refine (Hla.out _ _ H3.out 0 p M rfl).mono ?_; rintro r w4 ⟨rfl, M2, h⟩; have H4 : Hid (Own w w4 [cxO p M2 sp18a]) := Lib.hid h; clear h)
  go_upto_region 6 with (go_at_call 10; refine (Hlb.out _ _ H4.out 0 p M2 rfl).mono ?_; rintro r w5 ⟨rfl, M3, h⟩; have H5 : Hid (Own w w5 [cxO p M3 sp18b]) := Lib.hid h; clear h)
  go_upto_region 7 with (go_at_call 10; refine (Hlc.out _ _ H5.out 0 p M3 rfl).mono ?_; rintro r w6 ⟨rfl, M4, h⟩; have H6 : Hid (Own w w6 [cxO p M4 sp18c]) := Lib.hid h; clear h)
  clear H1 H2 H3 H4 H5 Hll0 Hlf0 Hla Hlb Hlc
  go_upto_region 8 with (go_at_call 12; refine (Ht1.out _ p M4 (H6.out.get (x := cxO p M4 sp18c) 0 rfl)).mono ?_; rintro r w7 ⟨rfl, hf⟩; have H7 := Lib.hid (H6.out.fresh hf); clear hf)
  go_upto_region 9 with (first
    | (go_at_call 11; refine (Hll.out _ p M4 (H7.out.get (x := cxO p M4 sp18c) 0 rfl)).mono ?_; rintro r w8 ⟨rfl, hf⟩; have H8 := Lib.hid (H7.out.fresh hf); clear hf)
    | (go_at_call 14; refine (Hh1.out w8 p M4 (H8.out.get (x := cxO p M4 sp18c) 0 rfl)).mono ?_; rintro r w9 ⟨rfl, rfl⟩)
    | (go_at_call 14; refine (Hh2.out w8 p M4 (H8.out.get (x := cxO p M4 sp18c) 0 rfl)).mono ?_; rintro r w9 ⟨rfl, rfl⟩)
    | (go_at_call 12; refine (Ht0.out _ p M4 (H8.out.get (x := cxO p M4 sp18c) 0 rfl)).mono ?_; rintro r w9 ⟨rfl, hf⟩; have H9 := Lib.hid (H8.out.fresh hf); clear hf)
    | (go_at_call 13; refine (Hlf.out _ p M4 (H9.out.get (x := cxO p M4 sp18c) 0 rfl)).mono ?_; rintro r w10 ⟨rfl, hf⟩; have H10 := Lib.hid (H9.out.fresh hf); clear hf))
  go_ret
  exact ⟨rfl, H10.out.fr⟩
end Go.Proofs.Ytopnnbhiehljlaa
