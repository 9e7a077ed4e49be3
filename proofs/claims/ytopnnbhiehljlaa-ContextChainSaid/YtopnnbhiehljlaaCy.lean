/- Layer 18 (context): Learn. -/
import Derived.Test.YtopnnbhiehljlaaCw
namespace Go.Proofs.Ytopnnbhiehljlaa
set_option linter.unusedVariables false
open Go.RowKit Go.My Go.Cx

theorem CxS.hist {w0 w w' : World} {L0 : List Thing} {p : Nat} {M : Mm} {c : C} {pv : Value} (h : CxS w0 L0 w p M c pv) {hv : Value} {hs : List UInt8}
    (hS : Sy w0 L0 w' (rowO pv c.plen (ids c c.plen) :: blkO p 62 (ctxVals M.q hv c) :: arO M.q c.cells M.u M.bs (nvs c.nds M.tps) :: hisO hv hs :: tabsO M c)) :
    CxAt w' p { M with hv := hv } { c with hist := hs } ∧ Step w0 w' (foot L0) (foot (cxL p { M with hv := hv } { c with hist := hs })) := by
  have h1 := hS.sub (List.sublist_cons_self _ _)
  exact ⟨⟨h1.st, h.bl, h.tl, h.vl⟩, h1.step⟩
theorem forget_plen (c : C) : c.forget.plen = 0 := by
  have hm : c.forget.m = 0 := by unfold C.m C.forget; simp
  unfold C.plen
  rw [hm]
  rfl
theorem CxS.forgot {w0 w w' : World} {L0 : List Thing} {p : Nat} {M : Mm} {c : C} {pv : Value} (h : CxS w0 L0 w p M c pv) (h2 : CxAt w' p M.none_ c.forget) (hs : Step w w' (foot (cxL p M c)) (foot (cxL p M.none_ c.forget))) : CxS w0 L0 w' p M.none_ c.forget (.slice none 0 0) := by
  have h1 := h.sy.sub (List.sublist_cons_self _ _)
  have h3 : Sy w0 L0 w' (cxL p M.none_ c.forget) := ⟨h2.st, h1.step.trans hs⟩
  obtain ⟨h4, h5⟩ := h3.st.new (Fr.refl NoF w') (y := rowO (.slice none 0 0) c.forget.plen (ids c.forget c.forget.plen)) (by rw [forget_plen]; exact ⟨rfl, .inl ⟨rfl, rfl⟩⟩) (rowO_ob _ _ _) (fun k hk => by cases hk)
  exact ⟨⟨h4, h3.step.trans h5⟩, rfl, rfl, rfl⟩
theorem CxS.of_path {w w' : World} {p : Nat} {M : Mm} {c : C} {pv : Value} (h : CxAt w p M c) (hr : w'.ownsRow w.heap.size 3 1 pv c.plen (intsV (ids c c.plen))) (hf : Fr NoF w w') : CxS w (cxL p M c) w' p M c pv := by
  obtain ⟨h4, h5⟩ := h.st.new hf (y := rowO pv c.plen (ids c c.plen)) (own_zero hr) (rowO_ob _ _ _) (fun k hk => own_base hr hk)
  exact ⟨⟨h4, h5⟩, h.bl, h.tl, h.vl⟩
/-- What is learnt next, once its node is there. -/
structure Grown (c d : C) (x : UInt8) (F j k : Nat) : Prop where
  ok : d.Ok
  lt : k < d.plen
  hist : d.hist = c.hist
  ord : d.ord = c.ord
  next : c.part x F (j + 1) = d.with (setA d.nds (suf d.hist k) x)
theorem need1_two {l : List Nd} {t : List UInt8} {x : UInt8} (h : has l t = false) : used (addAt l t x) = used l + 2 := by rw [used_addAt, need1_not h]
theorem Grown.there {c : C} {x : UInt8} {F j k : Nat} (hOk : (c.part x F j).Ok) (hk : F + j = k) (hp : k < (c.part x F j).plen) : Grown c (c.part x F j) x F j k :=
  ⟨hOk, hp, rfl, rfl, by
    subst hk
    have e : addAt (c.part x F j).nds (suf c.hist (F + j)) x = setA (c.part x F j).nds (suf c.hist (F + j)) x := addAt_in ((c.part x F j).plen_has hp) x
    rw [C.part_succ, e]
    rfl⟩
theorem Grown.new {c : C} {x : UInt8} {F j k : Nat} (hOk : (c.part x F j).Ok) (hOk2 : (c.part x F (j + 1)).Ok) (hk : F + j = k) (hm : k ≤ c.m) (hp : (c.part x F j).plen = k) :
    used (c.part x F j).nds < (c.part x F j).cells ∧ Grown c ((c.part x F j).with (addN (c.part x F j).nds (suf (c.part x F j).hist (c.part x F j).plen))) x F j k := by
  have hno := hOk.not_has (k := k) hm (by omega)
  have hu := need1_two (x := x) hno
  have hr : used (addAt (c.part x F j).nds (suf c.hist (F + j)) x) ≤ c.cells := hOk2.room
  have hno2 : has (c.part x F j).nds (suf c.hist k) = false := hno
  have hlt : used (c.part x F j).nds < (c.part x F j).cells := by
    rw [hk] at hr
    have e : used (addAt (c.part x F j).nds (suf c.hist k) x) = used (c.part x F j).nds + 2 := hu
    show used _ < c.cells
    omega
  refine ⟨hlt, grow_ok hOk (by rw [hp]; exact hm) hlt, by rw [grow_plen hOk (by rw [hp]; exact hm)]; omega, rfl, rfl, ?_⟩
  rw [C.part_succ, hk, hp]
  show _ = C.with _ (setA (addN (c.part x F j).nds (suf c.hist k)) (suf c.hist k) x)
  rw [setA_addN hno2]
  rfl
/-- What is learnt, and with what it begins. -/
structure Begin (c d : C) (x : UInt8) (F G : Nat) : Prop where
  ok : d.Ok
  le : G ≤ d.plen
  fits : needs d.nds d.hist x G (d.m + 1 - G) ≤ d.left
  is : d.put x G = c.learn x F
theorem Begin.same {c : C} {x : UInt8} {F : Nat} (hOk : c.Ok) (hF : F ≤ c.plen) (h : ¬ c.left < needs c.nds c.hist x F (c.m + 1 - F)) : Begin c c x F F :=
  ⟨hOk, hF, by omega, by unfold C.learn; rw [if_neg h]⟩
theorem Begin.forgot {c : C} {x : UInt8} {F : Nat} (hOk : c.Ok) (h : c.left < needs c.nds c.hist x F (c.m + 1 - F)) : Begin c c.forget x F 0 :=
  ⟨C.forget_ok hOk, Nat.zero_le _, by
    rw [C.forget_needs]
    have := hOk.lo
    show 2 ≤ c.cells - used []
    have : used [] = 0 := rfl
    omega, by unfold C.learn; rw [if_pos h]⟩
end Go.Proofs.Ytopnnbhiehljlaa
