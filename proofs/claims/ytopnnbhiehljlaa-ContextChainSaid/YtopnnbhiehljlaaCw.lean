/- Layer 18 (context): what turns while a sign is learnt. -/
import Derived.Test.YtopnnbhiehljlaaCv
namespace Go.Cx
set_option linter.unusedVariables false
open Go.Fq (T)
theorem setA_length (l : List Nd) (t : List UInt8) (x : UInt8) : (setA l t x).length = l.length := by unfold setA; rw [List.length_set]
theorem sums_setA {l : List Nd} {t : List UInt8} (h : has l t = true) (x : UInt8) : sums (setA l t x) = sums l + if (tabAt l (place l t)).s.idxOf x < (tabAt l (place l t)).s.length then 0 else 1 := by
  have h1 := sums_set l (place l t) ⟨t, (tabAt l (place l t)).add x⟩ (place_txt h).1
  dsimp only at h1
  rw [T_add_length] at h1
  unfold setA
  omega
theorem needs_mono (l : List Nd) (h : List UInt8) (x : UInt8) (f : Nat) : ∀ d j, needs l h x f j ≤ needs l h x f (j + d)
  | 0, j => Nat.le_refl _
  | d + 1, j => by
    have h1 := needs_mono l h x f d j
    have h2 : needs l h x f (j + (d + 1)) = needs l h x f (j + d) + need1 l (suf h (f + (j + d))) x := rfl
    omega
/-- So far learnt. -/
def C.part (c : C) (x : UInt8) (from_ j : Nat) : C := c.with (lrn c.nds c.hist x from_ j)
theorem C.part_zero (c : C) (x : UInt8) (from_ : Nat) : c.part x from_ 0 = c := rfl
theorem C.part_end (c : C) (x : UInt8) (from_ : Nat) : c.put x from_ = { c.part x from_ (c.m + 1 - from_) with hist := trim c.ord (c.hist ++ [x]) } := rfl
theorem C.part_ok {c : C} (h : c.Ok) (x : UInt8) (from_ : Nat) (hf : from_ ≤ c.plen) (hn : needs c.nds c.hist x from_ (c.m + 1 - from_) ≤ c.left) (j : Nat) (hj : from_ + j ≤ c.m + 1) : (c.part x from_ j).Ok := by
  have hml := c.m_le
  have h1 := lrn_good h.good c.hist x from_ (by
    rcases Nat.eq_zero_or_pos from_ with h0 | h0
    · exact .inl h0
    · exact .inr (c.plen_has (by omega))) j (by omega)
  refine ⟨h1.1, ?_, h.hl, h.ord16, h.lo, h.hi⟩
  show used (lrn _ _ _ _ _) ≤ c.cells
  rw [h1.2]
  have h2 := needs_mono c.nds c.hist x from_ (c.m + 1 - from_ - j) j
  rw [show j + (c.m + 1 - from_ - j) = c.m + 1 - from_ by omega] at h2
  have := h.room
  unfold C.left at hn
  omega
theorem C.part_succ (c : C) (x : UInt8) (from_ j : Nat) : c.part x from_ (j + 1) = (c.part x from_ j).with (addAt (c.part x from_ j).nds (suf c.hist (from_ + j)) x) := rfl
/-- There is a node for each text that is learnt already. -/
theorem C.part_plen {c : C} (h : c.Ok) (x : UInt8) (from_ : Nat) (hf : from_ ≤ c.plen) (hn : needs c.nds c.hist x from_ (c.m + 1 - from_) ≤ c.left) : ∀ j, from_ + j ≤ c.m + 1 → from_ + j ≤ (c.part x from_ j).plen
  | 0, _ => hf
  | j + 1, hj => by
    have ho := C.part_ok h x from_ hf hn (j + 1) hj
    have h1 : has (c.part x from_ (j + 1)).nds (suf (c.part x from_ (j + 1)).hist (from_ + j)) = true := by
      rw [C.part_succ]
      show has (addAt _ _ _) (suf c.hist (from_ + j)) = true
      rw [addAt_has]
      simp
    have := (ho.has_iff (k := from_ + j) (by show from_ + j ≤ c.m; omega)).1 h1
    omega
end Go.Cx
namespace Go.Proofs.Ytopnnbhiehljlaa
set_option linter.unusedVariables false
open Go.RowKit Go.My Go.Cx

/-- Contexts and a path, from these objects on. -/
structure CxS (w0 : World) (L0 : List Thing) (w : World) (p : Nat) (M : Mm) (c : C) (pv : Value) : Prop where
  sy : Sy w0 L0 w (cxpL p M c pv)
  bl : M.bs.length = c.nds.length
  tl : M.tps.length = c.nds.length
  vl : M.vs.length = c.nds.length
theorem CxS.p {w0 w : World} {L0 : List Thing} {p : Nat} {M : Mm} {c : C} {pv : Value} (h : CxS w0 L0 w p M c pv) : CxP w p M c pv := ⟨h.sy.st, h.bl, h.tl, h.vl⟩
theorem CxS.fresh {w0 w w' : World} {L0 : List Thing} {p : Nat} {M : Mm} {c : C} {pv : Value} (h : CxS w0 L0 w p M c pv) (hf : Fr NoF w w') : CxS w0 L0 w' p M c pv := ⟨h.sy.fresh hf, h.bl, h.tl, h.vl⟩
theorem CxS.then {w0 w w' : World} {L0 : List Thing} {p : Nat} {M M' : Mm} {c c' : C} {pv pv' : Value} (h : CxS w0 L0 w p M c pv) (h2 : CxP w' p M' c' pv') (hs : Step w w' (foot (cxpL p M c pv)) (foot (cxpL p M' c' pv'))) : CxS w0 L0 w' p M' c' pv' :=
  ⟨⟨h2.st, h.sy.step.trans hs⟩, h2.bl, h2.tl, h2.vl⟩
theorem CxS.added {w0 w w' : World} {L0 : List Thing} {p : Nat} {M : Mm} {c : C} {pv : Value} (h : CxS w0 L0 w p M c pv) {k : Nat} (hk : k < c.plen) (x : UInt8) {v1 v2 : Value} {s : Nat} (hs : s = sums (setA c.nds (suf c.hist k) x))
    (hS : Sy w0 L0 w' (rowO pv c.plen (ids c c.plen) :: blkO p 62 #[.int .i64 (c.ord : Int), .pointer (some ⟨M.q, 0, none⟩), .int .i64 (s : Int), .int .i64 (c.cells : Int), .int .i64 (rootOf c.nds : Int), M.hv, .int .i64 (c.restarts : Int)] ::
      arO M.q c.cells M.u M.bs (nvs c.nds M.tps) :: hisO M.hv c.hist :: (tabsO M c).set (place c.nds (suf c.hist k)) (tabO (M.tps.getD (place c.nds (suf c.hist k)) 0) ((tabAt c.nds (place c.nds (suf c.hist k))).add x) v1 v2))) :
    CxS w0 L0 w' p { M with vs := M.vs.set (place c.nds (suf c.hist k)) (v1, v2) } (c.with (setA c.nds (suf c.hist k) x)) pv := by
  have hh := c.plen_has hk
  have hl : (c.with (setA c.nds (suf c.hist k) x)).nds.length = c.nds.length := setA_length _ _ _
  refine ⟨?_, by rw [hl]; exact h.bl, by rw [hl]; exact h.tl, by rw [hl]; dsimp only; rw [List.length_set]; exact h.vl⟩
  have e : cxpL p { M with vs := M.vs.set (place c.nds (suf c.hist k)) (v1, v2) } (c.with (setA c.nds (suf c.hist k) x)) pv = rowO pv c.plen (ids c c.plen) :: blkO p 62 #[.int .i64 (c.ord : Int), .pointer (some ⟨M.q, 0, none⟩), .int .i64 (s : Int), .int .i64 (c.cells : Int), .int .i64 (rootOf c.nds : Int), M.hv, .int .i64 (c.restarts : Int)] ::
      arO M.q c.cells M.u M.bs (nvs c.nds M.tps) :: hisO M.hv c.hist :: (tabsO M c).set (place c.nds (suf c.hist k)) (tabO (M.tps.getD (place c.nds (suf c.hist k)) 0) ((tabAt c.nds (place c.nds (suf c.hist k))).add x) v1 v2) := by
    unfold cxpL cxL
    rw [addAt_same hk x, ids_same hk x c.plen (Nat.le_refl _), tabsO_set (M := M) (M' := { M with vs := M.vs.set (place c.nds (suf c.hist k)) (v1, v2) }) hh x v1 v2 h.tl h.vl rfl rfl]
    have e1 : nvs (c.with (setA c.nds (suf c.hist k) x)).nds M.tps = nvs c.nds M.tps := nvs_set hh x M.tps
    have e2 : rootOf (c.with (setA c.nds (suf c.hist k) x)).nds = rootOf c.nds := by
      have hp := (place_txt hh).1
      unfold rootOf
      rw [if_neg (fun e => by rw [e] at hl; simp at hl; omega), if_neg (fun e => by rw [e] at hp; simp at hp)]
    unfold ctxVals
    dsimp only
    rw [e1, e2, hs]
    rfl
  rw [e]
  exact hS
end Go.Proofs.Ytopnnbhiehljlaa
