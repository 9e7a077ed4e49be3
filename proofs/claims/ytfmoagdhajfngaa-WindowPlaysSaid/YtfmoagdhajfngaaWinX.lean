/- Layer 2 (window): contracts of a window of the call's own beside a block that is known whole. -/
import Derived.Test.YtfmoagdhajfngaaWinT
namespace Go.Proofs.Ytfmoagdhajfngaa
open Go.RowKit Go.My

/-- A window of the call's own, and beside it block X, that holds ox. -/
def OwnWinX (w0 w : World) (X : Nat) (ox : Obj) (p : Nat) (most : Int) (bs : List UInt8) : Prop :=
  ∃ v, WinAt w p most bs v ∧ w0.heap.size ≤ p ∧ (∀ k, v.ownBlock = some k → w0.heap.size ≤ k) ∧ Below w0.heap.size w0 w ∧ w.heap[X]? = some ox ∧ X ≠ p ∧ v.ownBlock ≠ some X

theorem OwnWinX.own {w0 w : World} {X : Nat} {ox : Obj} {p : Nat} {most : Int} {bs : List UInt8} (h : OwnWinX w0 w X ox p most bs) : OwnWin w0 w p most bs := by
  obtain ⟨v, h1, h2, h3, h4, _⟩ := h; exact ⟨v, h1, h2, h3, h4⟩
theorem OwnWinX.cell {w0 w : World} {X : Nat} {cs : Array Value} {t : TypeId} {p : Nat} {most : Int} {bs : List UInt8} (h : OwnWinX w0 w X (.cells cs t (0, 0)) p most bs) (j : Nat) : w.cell? ⟨X, j, none⟩ = cs[j]? := by
  obtain ⟨v, _, _, _, _, h, _⟩ := h; exact cell_of h j
theorem OwnWinX.drewN {w0 w : World} {X : Nat} {ox : Obj} {p : Nat} {most : Int} {bs : List UInt8} (h : OwnWinX w0 w X ox p most bs) (n : Nat) : OwnWinX w0 (w.drewN n) X ox p most bs := by
  obtain ⟨v, h1, h2, h3, h4, h5, h6, h7⟩ := h
  exact ⟨v, h1.drewN n, h2, h3, below_draw h4 n, h5, h6, h7⟩
theorem OwnWin.alloc {w0 w : World} {p : Nat} {most : Int} {bs : List UInt8} (h : OwnWin w0 w p most bs) (o : Obj) : OwnWinX w0 (w.alloc o) w.heap.size o p most bs := by
  obtain ⟨v, h1, h2, h3, h4⟩ := h
  refine ⟨v, h1.keep (S := fun _ => False) ((Fr.refl _ _).alloc o) (fun _ _ h => h), h2, h3, h4.alloc h4.size o, heap_alloc_new w o, ?_, ?_⟩
  · have := lt_of_block h1.blk; omega
  · intro e
    have := (h1.own.lt _ e).2
    omega
theorem OwnWinX.allocs {w0 w : World} {X : Nat} {ox : Obj} {p : Nat} {most : Int} {bs : List UInt8} (h : OwnWinX w0 w X ox p most bs) (o : Obj) : OwnWinX w0 (w.alloc o) X ox p most bs := by
  obtain ⟨v, h1, h2, h3, h4, h5, h6, h7⟩ := h
  exact ⟨v, h1.keep (S := fun _ => False) ((Fr.refl _ _).alloc o) (fun _ _ h => h), h2, h3, h4.alloc h4.size o, block_alloc h5, h6, h7⟩

theorem ownX_step {w0 w w' : World} {X : Nat} {ox : Obj} {p : Nat} {most : Int} {bs bs' : List UInt8} {v v' : Value} (hw : WinAt w p most bs v) (g1 : w0.heap.size ≤ p) (g2 : ∀ k, v.ownBlock = some k → w0.heap.size ≤ k) (g3 : Below w0.heap.size w0 w)
    (g4 : w.heap[X]? = some ox) (g5 : X ≠ p) (g6 : v.ownBlock ≠ some X) (hw' : WinAt w' p most bs' v') (hf : Fr (winFoot p v) w w') (hg : ∀ k, v'.ownBlock = some k → v.ownBlock = some k ∨ w.heap.size ≤ k) : OwnWinX w0 w' X ox p most bs' := by
  refine ⟨v', hw', g1, fun k hk => (hg k hk).elim (g2 k) (fun h => Nat.le_trans g3.size h), below_fr g3 hf ?_, hf.keep g4 ?_, g5, ?_⟩
  · rintro k (rfl | hk)
    · exact g1
    · exact g2 k hk
  · rintro (h | h)
    · exact g5 h
    · exact g6 h
  · intro e
    rcases hg X e with h | h
    · exact g6 h
    · have := lt_of_block g4; omega

section
variable (w0 w : World) (X : Nat) (ox : Obj) (p : Nat) (most : Int) (bs : List UInt8) (h : OwnWinX w0 w X ox p most bs)
include h
theorem ownX_put (x : Int) (b : UInt8) (hx : x = b.toNat) (hl : (bs.length : Int) < most) (hm : (bs.length : Int) < 1000000000) :
    Calls Try.prog 16 #[.pointer (some ⟨p, 0, none⟩), .int .u8 x] w fun e w' => e = .returned (.bool true) ∧ OwnWinX w0 w' X ox p most (bs ++ [b]) := by
  obtain ⟨v, hw, g1, g2, g3, g4, g5, g6⟩ := h
  refine (put_true p most x b hx bs v w hw hl hm).mono ?_
  rintro e w' ⟨rfl, v', hw', hf, hg⟩
  exact ⟨rfl, ownX_step hw g1 g2 g3 g4 g5 g6 hw' hf hg⟩
theorem ownX_put_no (x : Int) (hl : most ≤ (bs.length : Int)) :
    Calls Try.prog 16 #[.pointer (some ⟨p, 0, none⟩), .int .u8 x] w fun e w' => e = .returned (.bool false) ∧ OwnWinX w0 w' X ox p most bs := by
  obtain ⟨v, hw, _⟩ := id h
  exact (put_false p most x bs v w hw hl).mono fun e w' ⟨he, n, hn⟩ => ⟨he, hn ▸ h.drewN n⟩
theorem ownX_copy (d n : Nat) (hm : 0 ≤ most ∧ most ≤ 9223372036854775807) (h1 : 1 ≤ d) (h2 : d ≤ bs.length) (h3 : (n : Int) ≤ most - bs.length) (h4 : (bs.length : Int) + n ≤ 1000000000) :
    Calls Try.prog 17 #[.pointer (some ⟨p, 0, none⟩), .int .i64 (d : Int), .int .i64 (n : Int)] w fun e w' => e = .returned (.bool true) ∧ OwnWinX w0 w' X ox p most (cpy d n bs) := by
  obtain ⟨v, hw, g1, g2, g3, g4, g5, g6⟩ := h
  refine (copy_true p most d n bs v w hw hm h1 h2 h3 h4).mono ?_
  rintro e w' ⟨rfl, v', hw', hf, hg⟩
  exact ⟨rfl, ownX_step hw g1 g2 g3 g4 g5 g6 hw' hf hg⟩
theorem ownX_copy_no (d n : Int) (hm : 0 ≤ most ∧ most ≤ 9223372036854775807) (hd : d < 1 ∨ (bs.length : Int) < d ∨ n < 0 ∨ most - bs.length < n) :
    Calls Try.prog 17 #[.pointer (some ⟨p, 0, none⟩), .int .i64 d, .int .i64 n] w fun e w' => e = .returned (.bool false) ∧ OwnWinX w0 w' X ox p most bs := by
  obtain ⟨v, hw, _⟩ := id h
  exact (copy_false p most d n bs v w hw hm hd).mono fun e w' ⟨he, n, hn⟩ => ⟨he, hn ▸ h.drewN n⟩
theorem ownX_at (d : Nat) (h1 : 1 ≤ d) (h2 : d ≤ bs.length) :
    Calls Try.prog 19 #[.pointer (some ⟨p, 0, none⟩), .int .i64 (d : Int)] w fun e w' => e = .returned (.tuple #[.int .u8 ((bs.getD (bs.length - d) 0).toNat : Int), .bool true]) ∧ OwnWinX w0 w' X ox p most bs := by
  obtain ⟨v, hw, _⟩ := id h
  exact (at_true p most d bs v w hw h1 h2).mono fun e w' ⟨he, n, hn⟩ => ⟨he, hn ▸ h.drewN n⟩
theorem ownX_at_no (d : Int) (hd : d < 1 ∨ (bs.length : Int) < d) :
    Calls Try.prog 19 #[.pointer (some ⟨p, 0, none⟩), .int .i64 d] w fun e w' => e = .returned (.tuple #[.int .u8 0, .bool false]) ∧ w = w' := by
  obtain ⟨v, hw, _⟩ := id h
  exact at_false p most d bs v w hw hd
end
end Go.Proofs.Ytfmoagdhajfngaa
