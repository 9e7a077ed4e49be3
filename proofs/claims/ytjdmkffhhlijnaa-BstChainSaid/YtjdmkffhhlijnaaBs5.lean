/- Layer 08 (bst): the next place's matches with the blocks that turn; a finder ahead of others. -/
import Derived.Test.YtjdmkffhhlijnaaBs4
namespace Go.Proofs.Ytjdmkffhhlijnaa
set_option linter.unusedVariables false
open Go.RowKit Go.My Go.Ch Go.Bs

set_option maxHeartbeats 4000000 in
set_option maxRecDepth 100000 in
theorem bsnext_f {w : World} {B p gl gm : Nat} {s : ByteArray} {win : Int} {i : Nat} {top : Int} {L M : Nat → Int} (h : FinT w B p gl gm s win i top L M) (hs : s.size ≤ 1000) (hi : i < s.size) (hr : Rep L M (tree s.data.toList win i) top) :
    Calls Try.prog 15 #[.pointer (some ⟨p, 0, none⟩)] w fun e w' => ∃ r L' M', e = .returned r ∧ w'.ownsRow w.heap.size 32 2 r (allH s.data.toList i (lim i win)).2.length (foundV (allH s.data.toList i (lim i win)).2) ∧
      FinT w' B p gl gm s win (i + 1) (i : Int) L' M' ∧ Rep L' M' (tree s.data.toList win (i + 1)) (i : Int) ∧ Fr (fun k => k = p ∨ k = gl ∨ k = gm) w w' := by
  have c0 : w.cell? ⟨p, 0, none⟩ = some (.string s) := cell_of h.blk 0
  have c2 : w.cell? ⟨p, 2, none⟩ = some (.int .i64 (i : Int)) := cell_of h.blk 2
  have f2 := free_of h.blk 2
  have hiI : ¬ ((s.size : Int) ≤ (i : Int)) := by omega
  have hpl := h.lt.1
  have H := Lib.hid h
  have HR := Lib.hid hr
  obtain ⟨A, hA⟩ : ∃ A, allH s.data.toList i (lim i win) = A := ⟨_, rfl⟩
  rw [hA]
  have HA := Lib.hid hA
  clear h hr hA
  go_enter Try.func15, Try.ntmps15
  go_upto_region 1 with fail
  go_region
  all_goals go_upto_region 7 with fail
  clear c0 c2 f2 hiI
  obtain ⟨N, hN⟩ : ∃ N, w.heap.size = N := ⟨_, rfl⟩
  have hV : ∃ V, ((((w.setCell ⟨p, 2, none⟩ (.int .i64 ((i : Int) + 1))).alloc (.cells #[.int .i64 (i : Int)] 3)).alloc (.cells #[.slice none 0 0] 25)).alloc (.cells #[.int .i64 1] 3)).drew = V ∧
      Fr (fun k => k = p) w V ∧ FinT V B p gl gm s win (i + 1) top L M ∧ Met V N (N + 2) (N + 1) N i (1, []) (.slice none 0 0) := by
    obtain ⟨w1, hw1⟩ : ∃ w1, w.setCell ⟨p, 2, none⟩ (.int .i64 ((i : Int) + 1)) = w1 := ⟨_, rfl⟩
    have hF1 : Fr (fun k => k = p) w w1 := by rw [← hw1]; exact (Fr.refl _ w).setCell _ _ (.inl rfl)
    have hA1 : FinT w1 B p gl gm s win (i + 1) top L M := by rw [← hw1]; exact H.out.move (i + 1)
    have hs1 : w1.heap.size = N := by rw [← hw1, ← hN]; simp [World.setCell]
    rw [hw1]
    have b1 := heap_alloc_new w1 (.cells #[.int .i64 (i : Int)] 3)
    have b2 := heap_alloc_new (w1.alloc (.cells #[.int .i64 (i : Int)] 3)) (.cells #[.slice none 0 0] 25)
    have b3 := heap_alloc_new ((w1.alloc (.cells #[.int .i64 (i : Int)] 3)).alloc (.cells #[.slice none 0 0] 25)) (.cells #[.int .i64 1] 3)
    rw [hs1] at b1
    rw [show (w1.alloc (.cells #[.int .i64 (i : Int)] 3)).heap.size = N + 1 by simp [hs1]] at b2
    rw [show ((w1.alloc (.cells #[.int .i64 (i : Int)] 3)).alloc (.cells #[.slice none 0 0] 25)).heap.size = N + 2 by simp [hs1]] at b3
    exact ⟨_, rfl, ((((hF1).alloc _).alloc _).alloc _).drew, hA1.fresh ((((Fr.refl _ w1).alloc _).alloc _).alloc _).drew, ⟨b3, block_alloc b2, block_alloc (block_alloc b1), ⟨rfl, .inl ⟨rfl, rfl⟩⟩, by omega, by omega, by omega, by omega⟩⟩
  obtain ⟨V, hVe, hVF, hVA, hVM⟩ := hV
  have hlt := H.out.lt
  rw [hN] at hlt
  have hg := hang_is hVA hs hi HR.out hVM hlt
  rw [hVe]
  rw [HA.out] at hg
  have HG := Lib.hid hg
  have HVF := Lib.hid hVF
  have HN := Lib.hid hN
  have HLt := Lib.hid hlt
  have q3 : V.cell? ⟨N, 0, none⟩ = some (.int .i64 (i : Int)) := cell_of hVM.ci 0
  rw [hN]
  clear hg hVF hVA hVM hVe hN hlt hpl
  go_wp2_with (go_at_call 21; refine HG.out.mono ?_; rintro e w1 ⟨rfl, ⟨L', M', h1, h2⟩, ⟨v', h3⟩, h4⟩; have FA := Lib.hid h1; have FR := Lib.hid h2; have FM := Lib.hid h3; have FF := Lib.hid h4; have q4 : w1.cell? ⟨N + 1, 0, none⟩ = some v' := cell_of h3.co 0; clear h1 h2 h3 h4)
  go_ret
  refine ⟨_, L', M', rfl, by rw [HN.out]; exact FM.out.row, FA.out, FR.out, ?_⟩
  refine (HVF.out.mono (fun k hk => .inl (.inl hk))).trans FF.out (fun k hk => ?_)
  rcases hk with h | h | h | h
  · exact .inl (.inl h)
  · exact .inl (.inr (.inl h))
  · exact .inl (.inr (.inr h))
  · exact .inr (by rw [HN.out]; exact h)
/-- A finder behind i places, with its blocks below C. -/
def BstLow (w : World) (B C p : Nat) (s : ByteArray) (win : Int) (i : Nat) : Prop := ∃ gl gm top L M, FinT w B p gl gm s win i top L M ∧ Rep L M (tree s.data.toList win i) top ∧ p < C ∧ gl < C ∧ gm < C
theorem BstLow.keep {w w' : World} {B C p : Nat} {s : ByteArray} {win : Int} {i : Nat} (h : BstLow w B C p s win i) {S : Nat → Prop} (hf : Fr S w w') (hS : ∀ k, S k → C ≤ k) : BstLow w' B C p s win i := by
  obtain ⟨gl, gm, top, L, M, h1, h2, h3, h4, h5⟩ := h
  exact ⟨gl, gm, top, L, M, h1.keep hf (fun x => by have := hS _ x; omega) (fun x => by have := hS _ x; omega) (fun x => by have := hS _ x; omega), h2, h3, h4, h5⟩
theorem bl_new (s : ByteArray) (hs : s.size ≤ 1000) (win : Int) (w : World) :
    Calls Try.prog 14 #[.string s, .int .i64 win] w fun e w' => ∃ p, e = .returned (.pointer (some ⟨p, 0, none⟩)) ∧ BstLow w' w.heap.size w'.heap.size p s win 0 ∧ Fr (fun _ => False) w w' := by
  refine (bsnew_is s hs win w).mono ?_
  rintro e w' ⟨p, gl, gm, rfl, h1, h2⟩
  exact ⟨p, rfl, ⟨gl, gm, _, _, _, h1, rfl, h1.lt⟩, h2⟩
theorem bl_next {w : World} {B C p : Nat} {s : ByteArray} {win : Int} {i : Nat} (h : BstLow w B C p s win i) (hs : s.size ≤ 1000) (hi : i < s.size) :
    Calls Try.prog 15 #[.pointer (some ⟨p, 0, none⟩)] w fun e w' => ∃ r, e = .returned r ∧ w'.ownsRow w.heap.size 32 2 r (bfound s win i).length (foundV (bfound s win i)) ∧ BstLow w' B C p s win (i + 1) ∧ Fr (fun k => B ≤ k ∧ k < C) w w' := by
  obtain ⟨gl, gm, top, L, M, h1, h2, h3, h4, h5⟩ := h
  have hp := h1.hp
  have hl := h1.hl
  have hm := h1.hm
  refine (bsnext_f h1 hs hi h2).mono ?_
  rintro e w' ⟨r, L', M', rfl, q1, q2, q3, q4⟩
  refine ⟨r, rfl, q1, ⟨gl, gm, _, L', M', q2, q3, h3, h4, h5⟩, q4.mono (fun k hk => .inl ?_)⟩
  rcases hk with rfl | rfl | rfl
  · exact ⟨hp, h3⟩
  · exact ⟨hl, h4⟩
  · exact ⟨hm, h5⟩
end Go.Proofs.Ytjdmkffhhlijnaa
