/- ProbsPut, ProbsLike: what stands between two numbers. -/
import Derived.Test.YtpddocehjljofaaSp4
import Derived.Deep.CutRange
namespace Go.Proofs.Ytpddocehjljofaa
set_option linter.unusedVariables false
open Go.RowKit Go.My

/-- The program's encoder and tree, the document's encoder (in its own block) and tree. -/
structure PpSt (w wr : World) (pe b bm g n cap : Nat) (v : Value) (ops : List Rc.Op) (T : List Nat) (r : Value) (l : List Rc.Op) (U : List Nat) : Prop where
  enc : EncO wr pe v ops
  tr : TrAt wr b T
  hm : ∃ u0 u1, r = .agg #[u0, u1] ∧ wr.heap[bm]? = some (.cells #[u0, u1] 29 (0, 0))
  ra : RefA wr r (Rc.A.start.run l)
  rt : RtAt wr g n cap U
  row : ∀ k, rowOf r = some k → ¬ encFoot pe v k
  fr : Fr (fun _ => False) w wr
  hi : ∀ k, encFoot pe v k → w.heap.size ≤ k
  hib : w.heap.size ≤ b
  hibm : w.heap.size ≤ bm

variable {w wr w' : World} {pe b bm g g' n cap cap' : Nat} {v v' : Value} {ops ops' l l' : List Rc.Op} {T T' U U' : List Nat} {r r' : Value}
theorem PpSt.fresh (h : PpSt w wr pe b bm g n cap v ops T r l U) (hf : Fr (fun _ => False) wr w') : PpSt w w' pe b bm g n cap v ops T r l U := by
  obtain ⟨u0, u1, rfl, hb⟩ := h.hm
  exact ⟨h.enc.keep hf (fun _ _ h => h), h.tr.keep hf (fun h => h), ⟨u0, u1, rfl, hf.keep hb (fun h => h)⟩, h.ra.keep hf, h.rt.keep hf (fun h => h), h.row, h.fr.trans hf (fun _ h => h.elim), h.hi, h.hib, h.hibm⟩
theorem PpSt.put (h : PpSt w wr pe b bm g n cap v ops T r l U) (hp : PutPost wr pe b v ops' T' w') : ∃ v', PpSt w w' pe b bm g n cap v' ops' T' r l U := by
  obtain ⟨u0, u1, rfl, hb⟩ := h.hm
  obtain ⟨v', h1, h2, h3, h4⟩ := hp
  obtain ⟨cur, hty⟩ := h.rt.ty
  have hz := h.fr.size
  have hne := ne_of_ty h.tr hb (by decide)
  have hnb : ∀ k, rowOf (.agg #[u0, u1]) = some k → k ≠ b := fun k hk => by
    obtain ⟨c2, ht2⟩ := h.ra.rowTy hk
    exact ne_of_ty ht2 h.tr (by decide)
  refine ⟨v', h1, h2, ⟨u0, u1, rfl, h3.keep hb ?_⟩, ?_, ?_, ?_, ?_, ?_, h.hib, h.hibm⟩
  · rintro (hk | rfl)
    · exact h.enc.away hb (by decide) (by decide) hk
    · exact hne rfl
  · refine RefA.away h.ra h3 (fun k hk => ?_)
    rintro (h5 | h5)
    · exact h.row k hk h5
    · exact hnb k hk h5
  · refine h.rt.keep h3 ?_
    rintro (h5 | h5)
    · exact h.enc.away hty (by decide) (by decide) h5
    · exact ne_of_ty hty h.tr (by decide) h5
  · intro k hk hf
    rcases h4 k hf with h5 | h5
    · exact h.row k hk h5
    · obtain ⟨c2, ht2⟩ := h.ra.rowTy hk
      have := lt_of_block ht2
      omega
  · refine h.fr.trans h3 (fun k hk => .inr ?_)
    rcases hk with hk | rfl
    · exact h.hi k hk
    · exact h.hib
  · intro k hk
    rcases h4 k hk with h5 | h5
    · exact h.hi k h5
    · omega
/-- The document's encoder and tree are laid back. -/
theorem PpSt.ref (h : PpSt w wr pe b bm g n cap v ops T r l U) (hf : Fr (fun _ => False) wr w') {u0 u1 : Value} (hr : RefA w' (.agg #[u0, u1]) (Rc.A.start.run l')) (hg : ∀ k, rowOf (.agg #[u0, u1]) = some k → rowOf r = some k ∨ wr.heap.size ≤ k) (ht : RtAt w' g' n cap' U') :
    PpSt w ((w'.setCell ⟨bm, 0, none⟩ u0).setCell ⟨bm, 1, none⟩ u1) pe b bm g' n cap' v ops T (.agg #[u0, u1]) l' U' := by
  obtain ⟨z0, z1, rfl, hb⟩ := h.hm
  have hb' := hf.keep hb (fun h => h)
  have e2 := block_setCell (off := 1) (block_setCell (off := 0) hb' u0) u1
  have hf2 : Fr (fun k => k = bm) w' ((w'.setCell ⟨bm, 0, none⟩ u0).setCell ⟨bm, 1, none⟩ u1) := ((Fr.refl (fun k => k = bm) w').setCell ⟨bm, 0, none⟩ u0 (.inl rfl)).setCell ⟨bm, 1, none⟩ u1 (.inl rfl)
  have henc := h.enc.keep hf (fun _ _ h => h)
  have htr := h.tr.keep hf (fun h => h)
  obtain ⟨cur, hty⟩ := ht.ty
  refine ⟨henc.keep hf2 (fun k hk hk2 => ?_), htr.keep hf2 (ne_of_ty htr hb' (by decide)), ⟨u0, u1, rfl, e2⟩, RefA.away hr hf2 (fun k hk hk2 => ?_), ht.keep hf2 (ne_of_ty hty hb' (by decide)), fun k hk hfo => ?_, ?_, h.hi, h.hib, h.hibm⟩
  · subst hk2; exact henc.away hb' (by decide) (by decide) hk
  · obtain ⟨c2, ht2⟩ := hr.rowTy hk
    subst hk2
    exact ne_of_ty ht2 hb' (by decide) rfl
  · rcases hg k hk with h5 | h5
    · exact h.row k h5 hfo
    · have : k < wr.heap.size := by
        rcases hfo with rfl | hfo
        · exact lt_of_block h.enc.at_.blk
        · obtain ⟨c2, ht2⟩ := own_ty h.enc.at_.own hfo
          exact lt_of_block ht2
      omega
  · exact (h.fr.trans hf (fun _ h => h.elim)).trans hf2 (fun k hk => by subst hk; exact .inr h.hibm)
/-- Both ends tell the same bytes. -/
theorem PpSt.ends {u0 u1 : Value} (h : PpSt w wr pe b bm g n cap v ops T (.agg #[u0, u1]) ops U) (hl : ops.length ≤ 10000) :
    ∃ S : ByteArray, (∀ W, Fr (fun _ => False) wr W → Calls Try.prog 22 #[.pointer (some ⟨pe, 0, none⟩)] W fun r w' => r = .returned (.string S) ∧ Fr (fun _ => False) W w') ∧
      (∀ W, Fr (fun _ => False) wr W → Calls Try.prog 23 #[.agg #[u0, u1]] W fun r w' => r = .returned (.string S) ∧ Fr (fun _ => False) W w') := by
  refine ⟨_, fun W hW => end_ops pe v ops W (h.enc.keep hW (fun _ _ h => h)) (by omega), fun W hW => ref_end _ (Rc.A.start.run ops) (Rc.E.start.run ops) W (h.ra.keep hW) ?_ h.enc.rel⟩
  have := run_k Rc.A.start ops
  have h0 : Rc.A.start.k = 0 := rfl
  omega

/-- Numbers, one behind the other. -/
def seqP (n : Nat) (back : Bool) (f : Nat → Nat) (T0 : List Nat) : Nat → List Rc.Op × List Nat
  | 0 => ([], T0)
  | i + 1 => ((seqP n back f T0 i).1 ++ (Rc.putT (seqP n back f T0 i).2 1 (bsAt back (f i) 0 n)).1, (Rc.putT (seqP n back f T0 i).2 1 (bsAt back (f i) 0 n)).2.1)
theorem seqP_ok (n : Nat) (back : Bool) (f : Nat → Nat) (T0 : List Nat) (h : Rc.Pl T0 (2 ^ n)) (hn : 1 ≤ n) (i : Nat) : Rc.AllFine (seqP n back f T0 i).1 ∧ Rc.Pl (seqP n back f T0 i).2 (2 ^ n) ∧ (seqP n back f T0 i).1.length = n * i := by
  induction i with
  | zero => exact ⟨Rc.AllFine.nil, h, rfl⟩
  | succ i ih =>
    obtain ⟨h1, h2, h3⟩ := ih
    have hr : Rc.Room 1 n (bsAt back (f i) 0 n).length := by rw [bsAt_len]; exact Rc.Room.start n hn
    obtain ⟨g1, g2, g3⟩ := Rc.putT_pl h2 (Nat.le_refl _) hr (bsAt_two back (f i) 0 n)
    refine ⟨h1.append g1, g2, ?_⟩
    simp only [seqP, List.length_append]
    rw [h3, g3, bsAt_len, Nat.mul_succ]
end Go.Proofs.Ytpddocehjljofaa
