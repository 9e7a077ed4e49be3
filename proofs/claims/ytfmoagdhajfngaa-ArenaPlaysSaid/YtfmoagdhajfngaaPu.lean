/- ArenaPlays: what the regions that draw their order come to: two maps' updates, two appends. -/
import Derived.Test.YtfmoagdhajfngaaPt
set_option linter.unusedVariables false
set_option linter.unusedSimpArgs false
namespace Go.My
open Go.RowKit
theorem step_append_eq {P : Program} {w : World} {ops : Array Oper} {o : Oper} {a : Act} {K : Act → World → Prop} {Q : Exit → Act → World → Prop} {E : Prop} (hgd : o.guard = none) (s x : Operand) (t : TypeId)
    (ho : o.op = .call { callee := .builtin .append, args := #[s, x], argTypes := #[t, t] }) (v y : Value) (hs : a.eval s = v) (hx : a.eval x = y) (v' : Value) (w' : World)
    (hr : (Builtin.append_ #[t, t] o.type #[v, y]).run P w = .ok v' w') (h : K (a.put o.dst v') w') :
    if Region.wanted o (yielded ops a.tmps) = true then Oper.wp P o a w K Q else E := by
  have hw : Region.wanted o (yielded ops a.tmps) = true := by simp [Region.wanted, hgd]
  rw [if_pos hw]
  unfold Oper.wp execOp
  simp only [ho, resolve, invoke, builtin, Sem.run_bind, Sem.run_pure, Result.andThen_ok, List.map_toArray, List.map_cons, List.map_nil, hs, hx, hr]
  exact h
end Go.My
namespace Go.Proofs.Ytfmoagdhajfngaa
open Go.RowKit Go.My Go.Maps
section
variable {T : Nat} {w V : World} {p room mb mv N1 N2 : Nat} {u f l : Value} {us : List Cl} {fs lf : List Nat} {tk : Int → Bool} {vl : Int → Int}
theorem two_puts (h : PlS T w V p room mb mv N1 N2 u f l us fs lf tk vl) (hn1 : N1 ≤ 1000) (hn2 : N2 ≤ 1000) {k x : Int} (hk : (Lit.int .i64 k).wf = true) (hx : (Lit.int .i64 x).wf = true) :
    ∃ Va Vb Vc Vd, (Instr.mapUpdate 55 (.map (some mb)) (.int .i64 k) (.bool true)).run Try.prog V = .ok () Va ∧ (Instr.mapUpdate 56 (.map (some mv)) (.int .i64 k) (.int .i64 x)).run Try.prog Va = .ok () Vb ∧
      (Instr.mapUpdate 56 (.map (some mv)) (.int .i64 k) (.int .i64 x)).run Try.prog V = .ok () Vc ∧ (Instr.mapUpdate 55 (.map (some mb)) (.int .i64 k) (.bool true)).run Try.prog Vc = .ok () Vd ∧ Kp V Va ∧
      PlS T w Vb p room mb mv (N1 + 1) (N2 + 1) u f l us fs lf (fun j => if j = k then true else tk j) (fun j => if j = k then x else vl j) ∧
      PlS T w Vd p room mb mv (N1 + 1) (N2 + 1) u f l us fs lf (fun j => if j = k then true else tk j) (fun j => if j = k then x else vl j) := by
  obtain ⟨Va, ea, Pa, ka⟩ := h.putB hn1 hk true
  obtain ⟨Vb, eb, Pb, kb⟩ := Pa.putV hn2 hk hx
  obtain ⟨Vc, ec, Pc, kc⟩ := h.putV hn2 hk hx
  obtain ⟨Vd, ed, Pd, kd⟩ := Pc.putB hn1 hk true
  exact ⟨Va, Vb, Vc, Vd, ea, eb, ec, ed, ka, Pb, Pd⟩
theorem nums_one (lf : List Nat) : ∀ u ∈ nums lf, u.oneCell' = true := by
  intro u hu
  simp only [nums, List.mem_map] at hu
  obtain ⟨a, _, rfl⟩ := hu
  rfl
theorem nums_snoc (lf : List Nat) (x : Nat) : nums (lf ++ [x]) = nums lf ++ [.int .i64 (x : Int)] := by simp [nums]
theorem grown_fresh {a b : World} {v : Value} {B e s n : Nat} {xs : List Value} (hg : a.grownBy b v.ownBlock) {z : World} (hz : Fr (fun _ => False) z a) (ho : a.ownsRow z.heap.size e s v n xs) : Fr (fun _ => False) z b :=
  hz.grown hg (fun k hk => .inr (own_base ho hk))
/-- Both appends, one behind the other, where the new element's block is laid ahead or between. -/
theorem cat_one (h : PlS T w V p room mb mv N1 N2 u f l us fs lf tk vl) (hl : lf.length ≤ 1000) (x : Nat) {Z : World} (hZ : Fr (fun _ => False) V Z) {g : Nat} (hg : Z.ownsRow V.heap.size 3 1 (.slice (some ⟨g, 0, none⟩) 0 0) 0 []) :
    ∃ v' W', (Builtin.append_ #[57, 57] 57 #[.slice (some ⟨g, 0, none⟩) 0 0, l]).run Try.prog Z = .ok v' W' ∧ W'.ownsRow V.heap.size 3 1 v' lf.length (nums lf) ∧ Fr (fun _ => False) V W' ∧ Z.grownBy W' (some g) := by
  obtain ⟨i0, hi, hz0, hz1, hz2⟩ := info_parts i_info3
  have hlZ : Z.ownsRow T 3 1 l lf.length (nums lf) := own_keep h.fl hZ (fun _ _ x => x)
  obtain ⟨v', W', hr, ho, hgr, _⟩ := cat_rows (P := Try.prog) 57 57 V.heap.size 3 i0 (.int .i64 0) 8 Try.underlying57 hi hz0 hz1 hz2 rfl hg hlZ (nums_one lf) (by omega) (by decide) hZ.size
  refine ⟨v', W', hr, by simpa using ho, hZ.grown hgr (fun k hk => .inr (own_base hg hk)), hgr⟩
theorem cat_two (h : PlS T w V p room mb mv N1 N2 u f l us fs lf tk vl) (hl : lf.length ≤ 1000) (x : Nat) {Z : World} (hZ : Fr (fun _ => False) V Z) {v' : Value} (ho : Z.ownsRow V.heap.size 3 1 v' lf.length (nums lf)) {q : Nat} (hq : Z.heap[q]? = some (.cells #[.int .i64 (x : Int)] 3 (0, 0))) :
    ∃ v W, (Builtin.append_ #[57, 57] 57 #[v', .slice (some ⟨q, 0, none⟩) 1 1]).run Try.prog Z = .ok v W ∧ Fr (fun _ => False) V W ∧ PlS T w W p room mb mv N1 N2 u f v us fs (lf ++ [x]) tk vl := by
  obtain ⟨i0, hi, hz0, hz1, hz2⟩ := info_parts i_info3
  obtain ⟨g, cap, W, hr, ho2, hgr, _, _, _⟩ := run_append_my (P := Try.prog) Z 57 57 V.heap.size 3 i0 (.int .i64 0) 1 8 Try.underlying57 hi hz0 hz1 hz2 rfl (by decide) v' lf.length (nums lf) ho ⟨q, 0, none⟩ 1 1 [.int .i64 (x : Int)] rfl (World.news_of_block (cs := #[.int .i64 (x : Int)]) (t := 3) (fr := (0, 0)) hq) (by simp [Value.oneCell']) (by decide) (by unfold maxLen; omega) (by omega) hZ.size _ rfl
  refine ⟨_, W, hr, hZ.grown hgr (fun k hk => .inr (own_base ho hk)), h.newl (hZ.grown hgr (fun k hk => .inr (own_base ho hk))) ?_⟩
  rw [nums_snoc, List.length_append]
  exact ho2
theorem cat_eqs (h : PlS T w V p room mb mv N1 N2 u f l us fs lf tk vl) (hl : lf.length ≤ 1000) (x : Nat) {N : Nat} (hN : V.heap.size = N) :
    (∃ v1 W1 v2 W2, (Builtin.append_ #[57, 57] 57 #[.slice (some ⟨N, 0, none⟩) 0 0, l]).run Try.prog (V.alloc (.cells #[] 3)).drew = .ok v1 W1 ∧
      (Builtin.append_ #[57, 57] 57 #[v1, .slice (some ⟨W1.heap.size, 0, none⟩) 1 1]).run Try.prog (W1.alloc (.cells #[.int .i64 (x : Int)] 3)) = .ok v2 W2 ∧ Fr (fun _ => False) V W1 ∧ Fr (fun _ => False) V W2 ∧ PlS T w W2 p room mb mv N1 N2 u f v2 us fs (lf ++ [x]) tk vl) ∧
    (∃ v1 W1 v2 W2, (Builtin.append_ #[57, 57] 57 #[.slice (some ⟨N, 0, none⟩) 0 0, l]).run Try.prog ((V.alloc (.cells #[] 3)).alloc (.cells #[.int .i64 (x : Int)] 3)).drew = .ok v1 W1 ∧
      (Builtin.append_ #[57, 57] 57 #[v1, .slice (some ⟨N + 1, 0, none⟩) 1 1]).run Try.prog W1 = .ok v2 W2 ∧ Fr (fun _ => False) V W1 ∧ Fr (fun _ => False) V W2 ∧ PlS T w W2 p room mb mv N1 N2 u f v2 us fs (lf ++ [x]) tk vl) ∧
    (∃ v1 W1 v2 W2, (Builtin.append_ #[57, 57] 57 #[.slice (some ⟨N + 1, 0, none⟩) 0 0, l]).run Try.prog ((V.alloc (.cells #[.int .i64 (x : Int)] 3)).alloc (.cells #[] 3)).drew = .ok v1 W1 ∧
      (Builtin.append_ #[57, 57] 57 #[v1, .slice (some ⟨N, 0, none⟩) 1 1]).run Try.prog W1 = .ok v2 W2 ∧ Fr (fun _ => False) V W1 ∧ Fr (fun _ => False) V W2 ∧ PlS T w W2 p room mb mv N1 N2 u f v2 us fs (lf ++ [x]) tk vl) := by
  have f0 : Fr (fun _ => False) V V := Fr.refl _ _
  refine ⟨?_, ?_, ?_⟩
  · have hg := own_keep (own_empty V V.heap.size (Nat.le_refl _) 3) (Fr.refl (fun _ => False) _).drew (fun _ _ x => x)
    rw [hN] at hg
    obtain ⟨v1, W1, e1, o1, F1, g1⟩ := cat_one h hl x (f0.alloc (.cells #[] 3)).drew (g := N) (by rw [hN]; exact hg)
    have o1' := own_keep o1 ((Fr.refl (fun _ => False) W1).alloc (.cells #[.int .i64 (x : Int)] 3)) (fun _ _ x => x)
    obtain ⟨v2, W2, e2, F2, hP⟩ := cat_two h hl x (F1.alloc (.cells #[.int .i64 (x : Int)] 3)) o1' (heap_alloc_new W1 _)
    exact ⟨v1, W1, v2, W2, e1, e2, F1, F2, hP⟩
  · have hg := own_empty V V.heap.size (Nat.le_refl _) 3
    rw [hN] at hg
    have hg2 := own_keep hg ((Fr.refl (fun _ => False) (V.alloc (.cells #[] 3))).alloc (.cells #[.int .i64 (x : Int)] 3)).drew (fun _ _ x => x)
    obtain ⟨v1, W1, e1, o1, F1, g1⟩ := cat_one h hl x ((f0.alloc (.cells #[] 3)).alloc (.cells #[.int .i64 (x : Int)] 3)).drew (g := N) (by rw [hN]; exact hg2)
    have hb := heap_alloc_new (V.alloc (.cells #[] 3)) (.cells #[.int .i64 (x : Int)] 3)
    rw [show (V.alloc (.cells #[] 3)).heap.size = N + 1 by simp [hN]] at hb
    have hb1 : W1.heap[N + 1]? = _ := (g1.block (N + 1) (lt_of_block hb) (by simp)).trans hb
    obtain ⟨v2, W2, e2, F2, hP⟩ := cat_two h hl x F1 o1 hb1
    exact ⟨v1, W1, v2, W2, e1, e2, F1, F2, hP⟩
  · have hg := own_keep (own_empty (V.alloc (.cells #[.int .i64 (x : Int)] 3)) V.heap.size (by simp) 3) (Fr.refl (fun _ => False) _).drew (fun _ _ x => x)
    rw [show (V.alloc (.cells #[.int .i64 (x : Int)] 3)).heap.size = N + 1 by simp [hN]] at hg
    obtain ⟨v1, W1, e1, o1, F1, g1⟩ := cat_one h hl x ((f0.alloc (.cells #[.int .i64 (x : Int)] 3)).alloc (.cells #[] 3)).drew (g := N + 1) hg
    have hb := heap_alloc_new V (.cells #[.int .i64 (x : Int)] 3)
    rw [hN] at hb
    have hb2 := block_alloc (x := .cells #[] 3) hb
    have hb1 : W1.heap[N]? = _ := (g1.block N (lt_of_block hb2) (by simp)).trans hb2
    obtain ⟨v2, W2, e2, F2, hP⟩ := cat_two h hl x F1 o1 hb1
    exact ⟨v1, W1, v2, W2, e1, e2, F1, F2, hP⟩
end
end Go.Proofs.Ytfmoagdhajfngaa
