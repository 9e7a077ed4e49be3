/- Layer 18 (context): New; what the functions say of contexts among other objects. -/
import Derived.Test.YtopnnbhiehljlaaCz
namespace Go.Proofs.Ytopnnbhiehljlaa
set_option linter.unusedVariables false
open Go.RowKit Go.My Go.Cx

set_option maxHeartbeats 4000000 in
set_option maxRecDepth 100000 in
theorem cx_new (o n : Int) (w : World) :
    Calls Try.prog 9 #[.int .i64 o, .int .i64 n] w fun e w' => ∃ p M, e = .returned (.pointer (some ⟨p, 0, none⟩)) ∧ CxAt w' p M (C.new o n) ∧ Fr NoF w w' ∧ ∀ k, foot (cxL p M (C.new o n)) k → w.heap.size ≤ k := by
  obtain ⟨X, hX⟩ : ∃ X : Int, (if n < 64 then 64 else n) = X := ⟨_, rfl⟩
  obtain ⟨Y, hY⟩ : ∃ Y : Int, (if o < 0 then 0 else o) = Y := ⟨_, rfl⟩
  have hK : (if 1048576 < X then 1048576 else X) = ((C.new o n).cells : Int) := by
    unfold C.new
    dsimp only
    rw [← hX]
    split <;> split at * <;> omega
  have hO : (if 16 < Y then 16 else Y) = ((C.new o n).ord : Int) := by
    unfold C.new
    dsimp only
    rw [← hY]
    split <;> split at * <;> omega
  have hKb : (C.new o n).cells ≤ 1048576 := (C.Ok.new o n).hi
  have hnd : (C.new o n).nds = [] := rfl
  have hhi : (C.new o n).hist = [] := rfl
  have hre : (C.new o n).restarts = 0 := rfl
  generalize C.new o n = c at *
  obtain ⟨K, hKe⟩ : ∃ K, c.cells = K := ⟨_, rfl⟩
  obtain ⟨O, hOe⟩ : ∃ O, c.ord = O := ⟨_, rfl⟩
  rw [hKe] at hK hKb
  rw [hOe] at hO
  have hnew := fun (w : World) => ar_new K hKb w
  have Hnew := Lib.hid hnew
  have Hnd := Lib.hid hnd
  have Hhi := Lib.hid hhi
  have Hre := Lib.hid hre
  have HKe := Lib.hid hKe
  have HOe := Lib.hid hOe
  clear hnew hnd hhi hre hKe hOe hKb
  go_enter Try.func9, Try.ntmps9
  go_wp2_with (go_at_call 26; refine (Hnew.out _).mono ?_; rintro e w1 ⟨rfl, hA, hF⟩; have HA := Lib.hid hA; have HF := Lib.hid hF; clear hA hF)
  go_ret
  have hf2 : Fr NoF w1 (w1.alloc (.cells (ctxVals w.heap.size (.slice none 0 0) c) 62)) := (Fr.refl NoF w1).alloc _
  have hcv : ctxVals w.heap.size (.slice none 0 0) c = #[.int .i64 (O : Int), .pointer (some ⟨w.heap.size, 0, none⟩), .int .i64 0, .int .i64 (K : Int), .int .i64 0, .slice none 0 0, .int .i64 0] := by
    unfold ctxVals
    rw [HKe.out, HOe.out, Hnd.out, Hre.out]
    rfl
  have h1 : St w1 [arO w.heap.size K (.slice none 0 0) [] []] := St.one HA.out (arO_ob _ _ _ _ _)
  obtain ⟨h2, _⟩ := h1.snoc (Fr.refl NoF w1) (y := hisO (.slice none 0 0) []) (.inl ⟨rfl, rfl⟩) (hisO_ob _ _) (fun k hk => by cases hk)
  obtain ⟨h3, _⟩ := h2.new hf2 (y := blkO w1.heap.size 62 (ctxVals w.heap.size (.slice none 0 0) c)) (heap_alloc_new w1 _) (blkO_ob _ _ _) (fun k hk => by
    have e : k = w1.heap.size := hk
    omega)
  have e : cxL w1.heap.size ⟨w.heap.size, .slice none 0 0, .slice none 0 0, [], [], []⟩ c = blkO w1.heap.size 62 (ctxVals w.heap.size (.slice none 0 0) c) :: ([arO w.heap.size K (.slice none 0 0) [] []] ++ [hisO (.slice none 0 0) []]) := by
    unfold cxL tabsO
    rw [HKe.out, Hnd.out, Hhi.out]
    rfl
  rw [← hcv]
  refine ⟨w1.heap.size, ⟨w.heap.size, .slice none 0 0, .slice none 0 0, [], [], []⟩, rfl, ⟨by rw [e]; exact h3, by rw [Hnd.out]; rfl, by rw [Hnd.out]; rfl, by rw [Hnd.out]; rfl⟩, HF.out.trans hf2 (fun _ h => .inl h), ?_⟩
  rw [e]
  rintro k ⟨y, hy, hk⟩
  simp only [List.cons_append, List.nil_append, List.mem_cons, List.not_mem_nil, or_false] at hy
  rcases hy with rfl | rfl | rfl
  · have e : k = w1.heap.size := hk
    rw [e]
    exact HF.out.size
  · rcases hk with hk | hk | hk
    · exact Nat.le_of_eq hk.symm
    · cases hk
    · cases hk
  · cases hk
end Go.Proofs.Ytopnnbhiehljlaa
