/- Layer 18 (context): grow; forget; a sign more behind a node. -/
import Derived.Test.YtopnnbhiehljlaaCu
namespace Go.Proofs.Ytopnnbhiehljlaa
set_option linter.unusedVariables false
open Go.RowKit Go.My Go.Cx

theorem cx_grow {w : World} {p : Nat} {M : Mm} {c : C} {pv : Value} (h : CxP w p M c pv) (hOk : c.Ok) (hk : c.plen ≤ c.m) (hroom : used c.nds < c.cells) :
    Calls Try.prog 30 #[.pointer (some ⟨p, 0, none⟩), pv] w fun e w' => ∃ pv' M', e = .returned pv' ∧ CxP w' p M' (c.with (addN c.nds (suf c.hist c.plen))) pv' ∧ Step w w' (foot (cxpL p M c pv)) (foot (cxpL p M' (c.with (addN c.nds (suf c.hist c.plen))) pv')) := by
  rcases Nat.eq_zero_or_pos c.plen with h0 | h0
  · exact cx_grow0 h hOk h0
  · exact cx_grow1 h hOk h0 hk hroom

def Mm.none_ (M : Mm) : Mm := ⟨M.q, .slice none 0 0, .slice none 0 0, [], [], []⟩
theorem hisO_nil : (hisO (.slice none 0 0) []).1 = fun w => Hr w (.slice none 0 0) [] := rfl

set_option maxHeartbeats 4000000 in
set_option maxRecDepth 100000 in
theorem cx_forget {w : World} {p : Nat} {M : Mm} {c : C} (h : CxAt w p M c) (hr : c.restarts < 1000000000) :
    Calls Try.prog 29 #[.pointer (some ⟨p, 0, none⟩)] w fun e w' => e = .returned (.tuple #[]) ∧ CxAt w' p M.none_ c.forget ∧ Step w w' (foot (cxL p M c)) (foot (cxL p M.none_ c.forget)) := by
  obtain ⟨c0, c1, c2, c3, c4, c5, c6⟩ := h.core.cells
  have hC := ar_clear h.core.ar
  have hS : Sy w (cxL p M c) w (cxL p M c) := Sy.start h.st
  obtain ⟨R, hR⟩ : ∃ R, c.restarts = R := ⟨_, rfl⟩
  have em : IntKind.i64.wrap ((R : Int) + 1) = (R : Int) + 1 := IntWalk.i64_in _ (by omega)
  have HC := Lib.hid hC
  have HS := Lib.hid hS
  have HR := Lib.hid hR
  clear h hC hS c0 c2 c3 c4 c5 c6 hr hR
  go_enter Try.func29, Try.ntmps29
  go_upto_region 1 with (go_at_call 51; refine HC.out.mono ?_; rintro e w1 ⟨rfl, hA, hf⟩; have HA := Lib.hid hA; have HF := Lib.hid hf; clear hA hf)
  have hS1 := HS.out.turn 1 (x := arO M.q c.cells M.u M.bs (nvs c.nds M.tps)) (y := arO M.q c.cells (.slice none 0 0) [] []) (by simp [cxL]) ⟨HF.out.mono (fun k hk => Or.inl (show arFoot M.q M.u M.bs k from Or.inl hk)), fun k hk => by
    rcases hk with hk | hk | hk
    · exact .inl (show arFoot M.q M.u M.bs k from Or.inl hk)
    · cases hk
    · cases hk⟩ HA.out (arO_ob _ _ _ _ _)
  simp only [cxL, List.set_cons_succ, List.set_cons_zero] at hS1
  have hb1 : w1.heap[p]? = some (.cells (ctxVals M.q M.hv c) 62 (0, 0)) := hS1.st.get (x := blkO p 62 (ctxVals M.q M.hv c)) (by simp)
  unfold ctxVals at hb1
  have k2 := (cell_of hb1 2).trans rfl
  have k4 := (cell_of hb1 4).trans rfl
  have k5 := (cell_of hb1 5).trans rfl
  have k6 : w1.cell? ⟨p, 6, none⟩ = some (.int .i64 (c.restarts : Int)) := (cell_of hb1 6).trans rfl
  have f2 := free_of hb1 2
  have f4 := free_of hb1 4
  have f5 := free_of hb1 5
  have f6 := free_of hb1 6
  rw [HR.out] at k6
  have g2 : Fr (fun k => k = p) w1 (w1.setCell ⟨p, 2, none⟩ (.int .i64 0)) := (Fr.refl _ w1).setCell ⟨p, 2, none⟩ _ (.inl rfl)
  have hset : Fr (fun k => k = p) w1 ((((w1.setCell ⟨p, 2, none⟩ (.int .i64 0)).setCell ⟨p, 4, none⟩ (.int .i64 0)).setCell ⟨p, 5, none⟩ (.slice none 0 0)).setCell ⟨p, 6, none⟩ (.int .i64 ((R : Int) + 1))) :=
    ((g2.setCell ⟨p, 4, none⟩ _ (.inl rfl)).setCell ⟨p, 5, none⟩ _ (.inl rfl)).setCell ⟨p, 6, none⟩ _ (.inl rfl)
  have hb2 := block_setCell (block_setCell (block_setCell (block_setCell hb1 (.int .i64 0) (off := 2)) (.int .i64 0) (off := 4)) (.slice none 0 0) (off := 5)) (.int .i64 ((R : Int) + 1)) (off := 6)
  have hS2 := hS1.turn 0 (x := blkO p 62 (ctxVals M.q M.hv c)) (y := blkO p 62 (ctxVals M.q (.slice none 0 0) c.forget)) (by simp) ⟨hset, fun k hk => .inl hk⟩ (by
    have e : ctxVals M.q (.slice none 0 0) c.forget = #[.int .i64 (c.ord : Int), .pointer (some ⟨M.q, 0, none⟩), .int .i64 0, .int .i64 (c.cells : Int), .int .i64 0, .slice none 0 0, .int .i64 ((R : Int) + 1)] := by
      have h1 : ((c.forget.restarts : Nat) : Int) = (R : Int) + 1 := by
        show ((c.restarts + 1 : Nat) : Int) = _
        rw [HR.out]; omega
      unfold ctxVals
      rw [h1]
      rfl
    rw [e]
    exact hb2) (blkO_ob _ _ _)
  have hS3 := hS2.turn 2 (x := hisO M.hv c.hist) (y := hisO (.slice none 0 0) []) (by simp) ⟨Fr.refl _ _, fun k hk => by cases hk⟩ (.inl ⟨rfl, rfl⟩) (hisO_ob _ _)
  simp only [List.set_cons_succ, List.set_cons_zero] at hS3
  have hS4 := hS3.sub (M := cxL p M.none_ c.forget) (by
    refine List.Sublist.cons_cons _ (List.Sublist.cons_cons _ (List.Sublist.cons_cons _ ?_))
    exact List.nil_sublist _)
  have HS4 := Lib.hid hS4
  clear hS1 hb1 hset hb2 hS2 hS3 hS4 HA HF HS g2
  go_wp2
  go_end0
  exact ⟨rfl, ⟨HS4.out.st, rfl, rfl, rfl⟩, HS4.out.step⟩
end Go.Proofs.Ytopnnbhiehljlaa
