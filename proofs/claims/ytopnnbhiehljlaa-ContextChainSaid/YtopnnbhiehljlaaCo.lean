/- Layer 18 (context): contexts in memory. -/
import Derived.Test.YtopnnbhiehljlaaHr
import Derived.Test.YtopnnbhiehljlaaCxO
namespace Go.Cx
set_option linter.unusedVariables false
theorem id_le_kid {l : List Nd} (s : UInt8) (t : List UInt8) (n : Nat) (h : idOf l (s :: t) ≤ n) : idOf l (s :: t) ≤ kid l t n := by
  unfold idOf at h ⊢
  split
  · next hh =>
    rw [if_pos hh] at h
    obtain ⟨h1, h2⟩ := place_txt hh
    rcases Nat.lt_or_ge (place l (s :: t)) (kid l t n) with h3 | h3
    · exact h3
    · exact absurd ⟨by rw [h2]; simp, by rw [h2]; rfl⟩ (kid_gap l t n _ h3 (by omega))
  · omega
theorem kid_self {l : List Nd} {i : Nat} (hn : (texts l).Nodup) (hi : i < l.length) (s : UInt8) (t : List UInt8) (h1 : txtAt l i ≠ []) (h2 : (txtAt l i).tail = t) (h3 : (txtAt l i).headD 0 = s) : idOf l (s :: t) = i + 1 := by
  have e : txtAt l i = s :: t := by
    cases ht : txtAt l i with
    | nil => exact absurd ht h1
    | cons a b => rw [ht] at h2 h3; simp at h2 h3; rw [h2, h3]
  rw [← e]
  exact idOf_of hn hi
theorem kid_other {l : List Nd} {i : Nat} (s : UInt8) (t : List UInt8) (h3 : (txtAt l i).headD 0 ≠ s) (h : idOf l (s :: t) ≤ i + 1) : idOf l (s :: t) ≤ kid l t i := by
  refine id_le_kid s t i ?_
  rcases Nat.lt_or_ge (idOf l (s :: t)) (i + 1) with h1 | h1
  · omega
  · exfalso
    have h2 : idOf l (s :: t) = i + 1 := by omega
    have hh : has l (s :: t) = true := idOf_pos.1 (by omega)
    obtain ⟨h4, h5⟩ := place_txt hh
    unfold idOf at h2
    rw [if_pos hh] at h2
    have : place l (s :: t) = i := by omega
    rw [this] at h5
    rw [h5] at h3
    exact h3 rfl
end Go.Cx
namespace Go.Proofs.Ytopnnbhiehljlaa
set_option linter.unusedVariables false
open Go.RowKit Go.My Go.Cx

/-- Where contexts lie: the arena, its row, the history, the cells, the tables and their rows. -/
structure Mm where
  q : Nat
  u : Value
  hv : Value
  bs : List Nat
  tps : List Nat
  vs : List (Value × Value)
def nvAt (l : List Nd) (tps : List Nat) (i : Nat) : Nv := ⟨(txtAt l i).headD 0, kid l (txtAt l i) l.length, if txtAt l i = [] then 0 else kid l (txtAt l i).tail i, tps.getD i 0⟩
def nvs (l : List Nd) (tps : List Nat) : List Nv := (List.range l.length).map (nvAt l tps)
theorem nvs_length (l : List Nd) (tps : List Nat) : (nvs l tps).length = l.length := by simp [nvs]
theorem nvs_get {l : List Nd} {tps : List Nat} {i : Nat} (h : i < l.length) : (nvs l tps).getD i ⟨0, 0, 0, 0⟩ = nvAt l tps i := by simp [nvs, List.getD, h]
def rootOf (l : List Nd) : Nat := if l = [] then 0 else 1
structure CoreAt (w : World) (p : Nat) (M : Mm) (c : C) : Prop where
  blk : w.heap[p]? = some (.cells #[.int .i64 (c.ord : Int), .pointer (some ⟨M.q, 0, none⟩), .int .i64 (sums c.nds : Int), .int .i64 (c.cells : Int), .int .i64 (rootOf c.nds : Int), M.hv, .int .i64 (c.restarts : Int)] 62 (0, 0))
  ar : ArN w M.q c.cells M.u M.bs (nvs c.nds M.tps)
  bl : M.bs.length = c.nds.length
  tl : M.tps.length = c.nds.length
  vl : M.vs.length = c.nds.length
  hist : Hr w M.hv c.hist
def coreFoot (p : Nat) (M : Mm) : Nat → Prop := fun k => k = p ∨ arFoot M.q M.u M.bs k ∨ M.hv.ownBlock = some k
theorem CoreAt.keep {w w' : World} {p : Nat} {M : Mm} {c : C} {S : Nat → Prop} (h : CoreAt w p M c) (hf : Fr S w w') (hs : ∀ k, coreFoot p M k → ¬ S k) : CoreAt w' p M c :=
  ⟨hf.keep h.blk (hs p (.inl rfl)), h.ar.keep hf (fun k hk => hs k (.inr (.inl hk))), h.bl, h.tl, h.vl, h.hist.keep hf (fun k hk => hs k (.inr (.inr hk)))⟩
/-- A block that is known whole. -/
def blkO (p : Nat) (t : TypeId) (vals : Array Value) : Thing := (fun w => w.heap[p]? = some (.cells vals t (0, 0)), fun k => k = p)
theorem blkO_ob (p : Nat) (t : TypeId) (vals : Array Value) : Ob (blkO p t vals) := by
  refine ⟨fun h hf hs => hf.keep h (hs p rfl), fun {a k} h hk => ?_⟩
  obtain rfl : k = p := hk
  exact lt_of_block h
def arO (q room : Nat) (u : Value) (bs : List Nat) (vs : List Nv) : Thing := (fun w => ArN w q room u bs vs, arFoot q u bs)
theorem arO_ob (q room : Nat) (u : Value) (bs : List Nat) (vs : List Nv) : Ob (arO q room u bs vs) := ⟨fun h hf hs => ArN.keep h hf hs, fun h hk => ArN.lt h hk⟩
def hisO (v : Value) (bs : List UInt8) : Thing := (fun w => Hr w v bs, fun k => v.ownBlock = some k)
theorem hisO_ob (v : Value) (bs : List UInt8) : Ob (hisO v bs) := by
  refine ⟨fun h hf hs => Hr.keep h hf hs, fun {a k} h hk => ?_⟩
  obtain ⟨cur, hc⟩ := Hr.lt h hk
  exact lt_of_block hc
def rowO (v : Value) (n : Nat) (l : List Nat) : Thing := (fun w => w.ownsRow 0 3 1 v n (intsV l), fun k => v.ownBlock = some k)
theorem rowO_ob (v : Value) (n : Nat) (l : List Nat) : Ob (rowO v n l) := by
  refine ⟨fun h hf hs => own_keep h hf hs, fun {a k} h hk => ?_⟩
  obtain ⟨cur, hc⟩ := own_ty h hk
  exact lt_of_block hc
def ctxVals (q : Nat) (hv : Value) (c : C) : Array Value := #[.int .i64 (c.ord : Int), .pointer (some ⟨q, 0, none⟩), .int .i64 (sums c.nds : Int), .int .i64 (c.cells : Int), .int .i64 (rootOf c.nds : Int), hv, .int .i64 (c.restarts : Int)]
def tabsO (M : Mm) (c : C) : List Thing := (List.range c.nds.length).map fun i => tabO (M.tps.getD i 0) (tabAt c.nds i) (M.vs.getD i (undef, undef)).1 (M.vs.getD i (undef, undef)).2
/-- Contexts and their tables. -/
def cxL (p : Nat) (M : Mm) (c : C) : List Thing := blkO p 62 (ctxVals M.q M.hv c) :: arO M.q c.cells M.u M.bs (nvs c.nds M.tps) :: hisO M.hv c.hist :: tabsO M c
structure CxAt (w : World) (p : Nat) (M : Mm) (c : C) : Prop where
  st : St w (cxL p M c)
  bl : M.bs.length = c.nds.length
  tl : M.tps.length = c.nds.length
  vl : M.vs.length = c.nds.length
def cxFoot (p : Nat) (M : Mm) (c : C) : Nat → Prop := foot (cxL p M c)
theorem CxAt.core {w : World} {p : Nat} {M : Mm} {c : C} (h : CxAt w p M c) : CoreAt w p M c :=
  ⟨h.st.get (x := blkO p 62 (ctxVals M.q M.hv c)) (by simp [cxL]), h.st.get (x := arO M.q c.cells M.u M.bs (nvs c.nds M.tps)) (by simp [cxL]), h.bl, h.tl, h.vl, h.st.get (x := hisO M.hv c.hist) (by simp [cxL])⟩
theorem CxAt.tab {w : World} {p : Nat} {M : Mm} {c : C} (h : CxAt w p M c) {i : Nat} (hi : i < c.nds.length) : TabAt w (M.tps.getD i 0) (tabAt c.nds i) (M.vs.getD i (undef, undef)).1 (M.vs.getD i (undef, undef)).2 :=
  h.st.get (x := tabO (M.tps.getD i 0) (tabAt c.nds i) (M.vs.getD i (undef, undef)).1 (M.vs.getD i (undef, undef)).2) (by
    unfold cxL tabsO
    exact List.mem_cons_of_mem _ (List.mem_cons_of_mem _ (List.mem_cons_of_mem _ (List.mem_map.2 ⟨i, List.mem_range.2 hi, rfl⟩))))
theorem CxAt.keep {w w' : World} {p : Nat} {M : Mm} {c : C} {S : Nat → Prop} (h : CxAt w p M c) (hf : Fr S w w') (hs : ∀ k, cxFoot p M c k → ¬ S k) : CxAt w' p M c := ⟨h.st.keep hf hs, h.bl, h.tl, h.vl⟩
theorem CxAt.fresh {w w' : World} {p : Nat} {M : Mm} {c : C} (h : CxAt w p M c) (hf : Fr NoF w w') : CxAt w' p M c := h.keep hf (fun _ _ h => h)
def cxO (p : Nat) (M : Mm) (c : C) : Thing := (fun w => CxAt w p M c, cxFoot p M c)
theorem cxO_ob (p : Nat) (M : Mm) (c : C) : Ob (cxO p M c) := ⟨fun h hf hs => CxAt.keep h hf hs, fun {a k} h hk => by
  have h : CxAt a p M c := h
  exact h.st.lt hk⟩
theorem CoreAt.cells {w : World} {p : Nat} {M : Mm} {c : C} (h : CoreAt w p M c) : w.cell? ⟨p, 0, none⟩ = some (.int .i64 (c.ord : Int)) ∧ w.cell? ⟨p, 1, none⟩ = some (.pointer (some ⟨M.q, 0, none⟩)) ∧ w.cell? ⟨p, 2, none⟩ = some (.int .i64 (sums c.nds : Int)) ∧
    w.cell? ⟨p, 3, none⟩ = some (.int .i64 (c.cells : Int)) ∧ w.cell? ⟨p, 4, none⟩ = some (.int .i64 (rootOf c.nds : Int)) ∧ w.cell? ⟨p, 5, none⟩ = some M.hv ∧ w.cell? ⟨p, 6, none⟩ = some (.int .i64 (c.restarts : Int)) :=
  ⟨(cell_of h.blk 0).trans rfl, (cell_of h.blk 1).trans rfl, (cell_of h.blk 2).trans rfl, (cell_of h.blk 3).trans rfl, (cell_of h.blk 4).trans rfl, (cell_of h.blk 5).trans rfl, (cell_of h.blk 6).trans rfl⟩
/-- A node's cell. -/
theorem CoreAt.node {w : World} {p : Nat} {M : Mm} {c : C} (h : CoreAt w p M c) {i : Nat} (hi : i < c.nds.length) :
    w.cell? ⟨M.bs.getD i 0, 0, none⟩ = some (.int .u8 (((txtAt c.nds i).headD 0).toNat : Int)) ∧ w.cell? ⟨M.bs.getD i 0, 1, none⟩ = some (.int .i64 (kid c.nds (txtAt c.nds i) c.nds.length : Int)) ∧
    w.cell? ⟨M.bs.getD i 0, 2, none⟩ = some (.int .i64 ((if txtAt c.nds i = [] then 0 else kid c.nds (txtAt c.nds i).tail i : Nat) : Int)) ∧ w.cell? ⟨M.bs.getD i 0, 3, none⟩ = some (.pointer (some ⟨M.tps.getD i 0, 0, none⟩)) := by
  have hb := h.ar.cell i (by rw [h.bl]; exact hi)
  rw [nvs_get hi] at hb
  exact ⟨(cell_of hb 0).trans rfl, (cell_of hb 1).trans rfl, (cell_of hb 2).trans rfl, (cell_of hb 3).trans rfl⟩
theorem CoreAt.at_ {w : World} {p : Nat} {M : Mm} {c : C} (h : CoreAt w p M c) {i : Nat} (hi : i < c.nds.length) :
    Calls Try.prog 31 #[.pointer (some ⟨M.q, 0, none⟩), .int .i64 ((i : Int) + 1)] w fun e w' => e = .returned (.pointer (some ⟨M.bs.getD i 0, 0, none⟩)) ∧ w = w' :=
  ar_at h.ar i (by rw [h.bl]; exact hi)

set_option maxHeartbeats 2000000 in
set_option maxRecDepth 100000 in
theorem cx_below {w : World} {p : Nat} {M : Mm} {c : C} (h : CoreAt w p M c) (hOk : c.Ok) (i : Nat) (hi : i < c.nds.length) (s : UInt8) :
    Calls Try.prog 49 #[.pointer (some ⟨p, 0, none⟩), .int .i64 ((i : Int) + 1), .int .u8 (s.toNat : Int)] w fun e w' => e = .returned (.int .i64 (idOf c.nds (s :: txtAt c.nds i) : Int)) ∧ w = w' := by
  obtain ⟨_, c1, _, _, _, _, _⟩ := h.cells
  have hat := h.at_ hi
  have hnd := (h.node hi).2.1
  have hcap : c.nds.length ≤ 1048576 := by have h1 := hOk.room; unfold used at h1; have h2 := hOk.hi; omega
  obtain ⟨t, ht⟩ : ∃ t, txtAt c.nds i = t := ⟨_, rfl⟩
  rw [ht] at hnd ⊢
  obtain ⟨R, hR⟩ : ∃ R, idOf c.nds (s :: t) = R := ⟨_, rfl⟩
  rw [hR]
  have hstart := id_le_kid (l := c.nds) s t c.nds.length (idOf_le _ _)
  have hkl := kid_le c.nds t c.nds.length
  have hki := kid_is c.nds t c.nds.length
  rw [hR] at hstart
  obtain ⟨K, hK⟩ : ∃ K, kid c.nds t c.nds.length = K := ⟨_, rfl⟩
  rw [hK] at hnd hstart hkl hki
  obtain ⟨n, hn⟩ : ∃ n, c.nds.length = n := ⟨_, rfl⟩
  rw [hn] at hkl hcap
  obtain ⟨x, hx⟩ : ∃ x, s.toNat = x := ⟨_, rfl⟩
  rw [hx]
  have hxl : (x : Int) < 256 := by have := s.toNat_lt; omega
  have H := Lib.hid h
  have Hat := Lib.hid hat
  have HR := Lib.hid hR
  have Hst := Lib.hid hstart
  have Hki := Lib.hid hki
  have Hn := Lib.hid hn
  have Hx := Lib.hid hx
  have Hnod := Lib.hid hOk.good.nodup
  generalize M.bs.getD i 0 = b0 at *
  clear h hat hR hstart hki hn hx hK ht hOk hi
  go_enter Try.func49, Try.ntmps49
  go_upto_region 2 with (go_at_call 31; refine Hat.out.mono ?_; rintro e w1 ⟨rfl, rfl⟩)
  clear Hat hnd
  go_loop [7] (fun v7 => ∃ k : Nat, v7 = .int .i64 (k : Int) ∧ k ≤ n ∧ Hid (k ≠ 0 → txtAt c.nds (k - 1) ≠ [] ∧ (txtAt c.nds (k - 1)).tail = t) ∧ Hid (R ≤ k)) (fun v7 => (intOf v7).toNat)
  case atStart => exact ⟨K, rfl, hkl, Hki, Hst⟩
  case round =>
    clear hkl Hki Hst
    obtain ⟨k, rfl, hkn, HK, HRk⟩ := hrel
    rcases Nat.eq_zero_or_pos k with h0 | h0
    · subst h0
      have hR0 : R = 0 := by have := HRk.out; omega
      subst hR0
      go_wp2
      go_ret
      exact ⟨rfl, rfl⟩
    · obtain ⟨j, rfl⟩ : ∃ j, k = j + 1 := ⟨k - 1, by omega⟩
      have hjl : j < c.nds.length := by rw [Hn.out]; omega
      have hat := H.out.at_ hjl
      obtain ⟨d0, _, d2, _⟩ := H.out.node hjl
      have hk := HK.out (by omega)
      rw [show j + 1 - 1 = j by omega] at hk
      rw [if_neg hk.1, hk.2] at d2
      have hck : ((j + 1 : Nat) : Int) = (j : Int) + 1 := by omega
      have hne : ((j : Int) + 1 == 0) = false := by
        have : ¬ ((j : Int) + 1 = 0) := by omega
        simpa using this
      have hnb : ((j : Int) + 1 != 0) = true := by simp [bne, hne]
      rw [hck]
      have Hat := Lib.hid hat
      have HK2 := Lib.hid hk
      have Hjl := Lib.hid hjl
      generalize M.bs.getD j 0 = bj at *
      obtain ⟨y, hy⟩ : ∃ y, (txtAt c.nds j).headD 0 = y := ⟨_, rfl⟩
      rw [hy] at d0
      have Hy := Lib.hid hy
      clear hat hk hjl hck HK hy h0 hne
      by_cases he : y = s
      · have hRe : R = j + 1 := by rw [← HR.out]; exact kid_self Hnod.out Hjl.out s t HK2.out.1 HK2.out.2 (Hy.out.trans he)
        subst he
        rw [Hx.out] at d0
        have HRe := Lib.hid hRe
        clear hRe d2
        go_wp2_with (go_at_call 31; refine Hat.out.mono ?_; rintro e w1 ⟨rfl, rfl⟩)
        go_ret
        exact ⟨by rw [HRe.out]; rfl, rfl⟩
      · have hle := kid_other (l := c.nds) (i := j) s t (by rw [Hy.out]; exact he) (by rw [HR.out]; exact HRk.out)
        rw [HR.out] at hle
        have hkj := kid_le c.nds t j
        have hki := kid_is c.nds t j
        obtain ⟨K2, hK2⟩ : ∃ K, kid c.nds t j = K := ⟨_, rfl⟩
        rw [hK2] at hle hkj hki d2
        have hnex : ((y.toNat : Int) == (x : Int)) = false := by
          have : y.toNat ≠ x := fun e => he (UInt8.toNat_inj.1 (by rw [e, Hx.out]))
          simp
          omega
        have hyl : (y.toNat : Int) < 256 := by have := y.toNat_lt; omega
        obtain ⟨z, hz⟩ : ∃ z, y.toNat = z := ⟨_, rfl⟩
        rw [hz] at d0 hnex hyl
        have Hle := Lib.hid hle
        have Hki := Lib.hid hki
        clear hle hki hK2 hz he Hy
        go_wp2_with (go_at_call 31; refine Hat.out.mono ?_; rintro e w1 ⟨rfl, rfl⟩)
        go_round
        case rel => exact ⟨K2, rfl, by omega, Hki, Hle⟩
        case measure => simp [intOf]; omega
end Go.Proofs.Ytopnnbhiehljlaa
