/- Walks of layer 3 (rc): the encoder in words of its steps. -/
import Derived.Test.YtopnnbhiehljlaaEnc2
import Derived.Laws.BitsLemmas
namespace Go.Proofs.Ytopnnbhiehljlaa
set_option linter.unusedVariables false
open Go.RowKit Go.My

/-- An encoder behind so many steps. -/
structure EncO (w : World) (p : Nat) (v : Value) (ops : List Rc.Op) : Prop where
  at_ : EncAt w p (Rc.E.start.run ops) v
  fine : Rc.AllFine ops
theorem EncO.rel {w : World} {p : Nat} {v : Value} {ops : List Rc.Op} (h : EncO w p v ops) : Rc.Rel (Rc.E.start.run ops) (Rc.A.start.run ops) := Rc.Rel.run (a := Rc.A.start) Rc.Rel.start Rc.A.Good.start h.fine
theorem EncO.good {w : World} {p : Nat} {v : Value} {ops : List Rc.Op} (h : EncO w p v ops) : (Rc.A.start.run ops).Good := Rc.A.Good.start.run h.fine
theorem EncO.keep {w w' : World} {p : Nat} {v : Value} {ops : List Rc.Op} {S : Nat → Prop} (h : EncO w p v ops) (hf : Fr S w w') (hs : ∀ k, encFoot p v k → ¬ S k) : EncO w' p v ops := ⟨h.at_.keep hf hs, h.fine⟩
theorem EncO.drewN {w : World} {p : Nat} {v : Value} {ops : List Rc.Op} (h : EncO w p v ops) (n : Nat) : EncO (w.drewN n) p v ops := ⟨h.at_.drewN n, h.fine⟩
theorem widenN_k (a : Rc.A) (n : Nat) : (a.widenN n).k ≤ a.k + n := by
  induction n generalizing a with
  | zero => exact Nat.le_refl _
  | succ n ih =>
    unfold Rc.A.widenN
    split
    · have := ih ⟨a.lo * 256, a.k + 1, a.r * 256⟩; simp at this; omega
    · omega
theorem step_k (a : Rc.A) (o : Rc.Op) : (a.step o).k ≤ a.k + 3 := by
  have h : ∀ d R, ((a.sub d R).widen).k ≤ a.k + 3 := fun d R => widenN_k (a.sub d R) 3
  cases o with
  | bit p b => show (a.bit p b).k ≤ _; unfold Rc.A.bit; split <;> exact h _ _
  | direct b => show (a.direct b).k ≤ _; unfold Rc.A.direct; split <;> exact h _ _
  | part s z t => exact h _ _
theorem run_k (a : Rc.A) (l : List Rc.Op) : (a.run l).k ≤ a.k + 3 * l.length := by
  induction l generalizing a with
  | nil => exact Nat.le_refl _
  | cons o l ih => have h1 := ih (a.step o); have h2 := step_k a o; show ((a.step o).run l).k ≤ _; simp only [List.length_cons]; omega
theorem EncO.len {w : World} {p : Nat} {v : Value} {ops : List Rc.Op} (h : EncO w p v ops) : (Rc.E.start.run ops).out.length + (Rc.E.start.run ops).pend ≤ 3 * ops.length := by
  have h1 := h.rel.ok.k
  have h2 := run_k Rc.A.start ops
  have : Rc.A.start.k = 0 := rfl
  omega

set_option maxHeartbeats 1000000 in
set_option maxRecDepth 100000 in
/-- Part of a total. -/
theorem enc_part (p : Nat) (e : Rc.E) (v : Value) (start size total : Nat) (w : World) (h : EncAt w p e v) (hb : e.out.length + e.pend ≤ 900000000) (hlow : e.low + e.size ≤ 8589934592) (hs1 : 16777216 ≤ e.size) (hs2 : e.size < 4294967296) (hx : Rc.PtOk start size total) :
    Calls Try.prog 66 #[.pointer (some ⟨p, 0, none⟩), .int .u32 (start : Int), .int .u32 (size : Int), .int .u32 (total : Int)] w fun r w' => r = .returned (.tuple #[]) ∧
      ∃ v', EncAt w' p (e.part start size total) v' ∧ Step w w' (encFoot p v) (encFoot p v') := by
  have hpi := Rc.part_in hs1 hx
  have ht : 1 ≤ (total : Int) := by have := hx.one; have := hx.in_; omega
  have hsm := hx.small
  have hin := hx.in_
  obtain ⟨q, hq⟩ : ∃ q, e.size / total = q := ⟨_, rfl⟩
  have hqi : (e.size : Int) / (total : Int) = (q : Int) := by rw [← hq]; simp
  have hd : ((q : Int) * (start : Int)) = ((q * start : Nat) : Int) := by simp
  have hR : ((q : Int) * (size : Int)) = ((q * size : Nat) : Int) := by simp
  rw [hq] at hpi
  obtain ⟨D, hD⟩ : ∃ D, q * start = D := ⟨_, rfl⟩
  obtain ⟨R, hR2⟩ : ∃ R, q * size = R := ⟨_, rfl⟩
  rw [hD] at hd hpi
  rw [hR2] at hR hpi
  have hpart : e.part start size total = (e.sub D R).widen := by unfold Rc.E.part; rw [hq, hD, hR2]
  have hw1 : IntKind.u64.wrap ((q : Int) * (start : Int)) = (D : Int) := by rw [hd]; exact IntWalk.u64_in _ (by omega)
  have hw2 : IntKind.u64.wrap ((e.low : Int) + (D : Int)) = (e.low : Int) + (D : Int) := IntWalk.u64_in _ (by omega)
  have hw3 : IntKind.u32.wrap ((q : Int) * (size : Int)) = (R : Int) := by rw [hR]; exact IntWalk.u32_in _ (by omega)
  have hq0 : (0 : Int) ≤ (q : Int) := by omega
  have hq1 : (q : Int) < 4294967296 := by have := Nat.div_le_self e.size total; omega
  have hst : (start : Int) < 4294967296 := by omega
  have hzt : (size : Int) < 4294967296 := by omega
  have hsz0 : 0 ≤ (e.size : Int) := by omega
  obtain ⟨d0, d1, d2, d3, d4, fr⟩ := h.cells
  have f0 := fr 0
  have f1 := fr 1
  have hk := h.sub D R
  have HK := Lib.hid hk
  have Hpart := Lib.hid hpart
  have hB : EncB (e.sub D R) 900000000 := ⟨by simp only [Rc.E.sub]; omega, hb⟩
  have hwd := enc_widen p (e.sub D R) v _ hk.1 hB (by simp only [Rc.E.sub]; omega) (by simp only [Rc.E.sub]; omega)
  have Hwd := Lib.hid hwd
  clear h hb hlow hs1 hs2 hx hpi hsm hin hq hD hR2 hpart hk hd hR fr hB hwd
  go_enter Try.func66, Try.ntmps66
  go_wp2_with (go_at_call 72; refine Hwd.out.mono ?_; rintro r w1 ⟨rfl, v2, h1, h2⟩; have HE := Lib.hid h1; have HS := Lib.hid h2; clear h1 h2)
  go_end0
  exact ⟨rfl, v2, by rw [Hpart.out]; exact HE.out, HK.out.2.trans HS.out⟩

theorem part_ops (p : Nat) (v : Value) (ops : List Rc.Op) (start size total : Nat) (w : World) (h : EncO w p v ops) (hn : ops.length ≤ 100000000) (hx : Rc.PtOk start size total) :
    Calls Try.prog 66 #[.pointer (some ⟨p, 0, none⟩), .int .u32 (start : Int), .int .u32 (size : Int), .int .u32 (total : Int)] w fun r w' => r = .returned (.tuple #[]) ∧
      ∃ v', EncO w' p v' (ops ++ [.part start size total]) ∧ Step w w' (encFoot p v) (encFoot p v') := by
  have hr := h.rel
  have hg := h.good
  refine (enc_part p _ v start size total w h.at_ (by have := h.len; omega) (by rw [hr.size]; exact hr.ok.top) (by rw [hr.size]; exact hg.lo) (by rw [hr.size]; exact hg.hi) hx).mono ?_
  rintro r w' ⟨hr, v', h1, h2⟩
  refine ⟨hr, v', ⟨?_, h.fine.append (Rc.AllFine.cons hx Rc.AllFine.nil)⟩, h2⟩
  rw [Rc.E.run_append]
  exact h1

theorem and1_u32 (a : Nat) (ha : a < 4294967296) : Go.bits .and .u32 (a : Int) 1 = ((a % 2 : Nat) : Int) := by
  have h := (bits_nat .u32 32 (by decide) (fun n h0 h1 => by rw [IntKind.wrap_u32]; omega) a 1 ha (by decide)).1
  rw [show ((1 : Nat) : Int) = 1 from rfl] at h
  rw [h, Nat.and_one_is_mod]

end Go.Proofs.Ytopnnbhiehljlaa
