/- Walks of the reference of layer 3 (rc): the decoder. -/
import Derived.Test.YtpddocehjljofaaRef3
import Derived.Test.YtpddocehjljofaaDec4
namespace Go.Proofs.Ytpddocehjljofaa
open Go.RowKit Go.My

/-- The document's decoder, as a value. -/
def dC (d : Rc.D) : Array Value := #[.string ⟨d.rest.toArray⟩, .int .u64 (d.code : Int), .int .u64 (d.size : Int), .bool d.bad]
def dV (d : Rc.D) : Value := .agg (dC d)

set_option maxHeartbeats 1000000 in
set_option maxRecDepth 100000 in
theorem refd_next (d : Rc.D) (w : World) (hl : d.rest.length ≤ 1000000000) :
    Calls Try.prog 71 #[dV d] w fun r w' => r = .returned (.tuple #[dV d.next.2, .int .u64 (d.next.1 : Int)]) ∧ Fr (fun _ => False) w w' := by
  unfold dV dC
  have Hl := Lib.hid hl
  clear hl
  cases hr : d.rest with
  | nil =>
    have e1 : d.next = (0, { d with bad := true }) := by unfold Rc.D.next; rw [hr]
    rw [e1]
    dsimp only
    rw [hr]
    have hsz : ((ByteArray.mk ([] : List UInt8).toArray).size == 0) = true := rfl
    clear e1 Hl
    go_enter Try.func71, Try.ntmps71
    go_wp2
    refine bodyPost_ret (v := .tuple #[.agg #[.string ⟨[].toArray⟩, .int .u64 (d.code : Int), .int .u64 (d.size : Int), .bool true], .int .u64 0]) ?_ rfl ⟨rfl, ((Fr.refl _ _).alloc _).alloc _⟩
    simp [results, Try.results71, go_sem]
  | cons b r =>
    have e1 : d.next = (b.toNat, { d with rest := r }) := by unfold Rc.D.next; rw [hr]
    rw [e1]
    dsimp only
    have hsz : (ByteArray.mk (b :: r).toArray).size = r.length + 1 := by simp [ByteArray.size]
    have hcut := cut1 b r
    rw [hsz] at hcut
    have hget : ∀ h : 0 < (ByteArray.mk (b :: r).toArray).size, (ByteArray.mk (b :: r).toArray)[0] = b := fun _ => rfl
    have hl : (r.length : Int) + 1 ≤ 1000000000 := by have := Hl.out; rw [hr] at this; simp at this; omega
    clear e1 Hl
    generalize ByteArray.mk (b :: r).toArray = s at *
    have hsz' : (0 : Int) < (s.size : Int) := by omega
    have hsz2 : (s.size : Int) ≤ 1000000000 := by omega
    have hsz3 : ((s.size : Int) == 0) = false := beq_eq_false_iff_ne.2 (by omega)
    have hsz4 : (s.size == 0) = false := beq_eq_false_iff_ne.2 (by omega)
    have Hcut := Lib.hid hcut
    have Hget := Lib.hid hget
    have Hsz := Lib.hid hsz
    clear hcut hget hsz hl hr
    go_enter Try.func71, Try.ntmps71
    go_wp2
    rename_i h0
    refine bodyPost_ret (v := .tuple #[.agg #[.string (s.extract 1 s.size), .int .u64 (d.code : Int), .int .u64 (d.size : Int), .bool d.bad], .int .u64 (s[0].toNat : Int)]) ?_ rfl ⟨?_, ((Fr.refl _ _).alloc _).alloc _⟩
    · simp [results, Try.results71, go_sem]
      exact IntWalk.u64_in _ (by have := (s[0]).toNat_lt; omega)
    · rw [Hsz.out, Hcut.out, Hget.out h0]

theorem blk_set4 {w : World} {k : Nat} {a b c d : Value} {t : TypeId} (h : w.heap[k]? = some (.cells #[a, b, c, d] t (0, 0))) (x0 x1 x2 x3 : Value) :
    ((((w.setCell ⟨k, 0, none⟩ x0).setCell ⟨k, 1, none⟩ x1).setCell ⟨k, 2, none⟩ x2).setCell ⟨k, 3, none⟩ x3).heap[k]? = some (.cells #[x0, x1, x2, x3] t (0, 0)) := by
  have h1 := block_setCell h (off := 0) x0
  have h2 := block_setCell h1 (off := 1) x1
  have h3 := block_setCell h2 (off := 2) x2
  have h4 := block_setCell h3 (off := 3) x3
  simpa using h4
theorem blk_oth4 {w : World} {k b : Nat} {o : Obj} (h : w.heap[k]? = some o) (hne : k ≠ b) (x0 x1 x2 x3 : Value) :
    ((((w.setCell ⟨b, 0, none⟩ x0).setCell ⟨b, 1, none⟩ x1).setCell ⟨b, 2, none⟩ x2).setCell ⟨b, 3, none⟩ x3).heap[k]? = some o :=
  block_setCell_other (block_setCell_other (block_setCell_other (block_setCell_other h hne _) hne _) hne _) hne _
theorem fr_set4 {w wr : World} {k : Nat} (h : Fr (fun _ => False) w wr) (hk : w.heap.size ≤ k) (x0 x1 x2 x3 : Value) :
    Fr (fun _ => False) w ((((wr.setCell ⟨k, 0, none⟩ x0).setCell ⟨k, 1, none⟩ x1).setCell ⟨k, 2, none⟩ x2).setCell ⟨k, 3, none⟩ x3) :=
  (((h.setCell ⟨k, 0, none⟩ x0 (.inr hk)).setCell ⟨k, 1, none⟩ x1 (.inr hk)).setCell ⟨k, 2, none⟩ x2 (.inr hk)).setCell ⟨k, 3, none⟩ x3 (.inr hk)
theorem next_resize (d : Rc.D) (s : Nat) : ({ d with size := s } : Rc.D).next = (d.next.1, { d.next.2 with size := s }) := by
  unfold Rc.D.next
  dsimp only
  split <;> rfl
theorem pull_resize (d : Rc.D) (s : Nat) : ({ d with size := s } : Rc.D).pull = { d.next.2 with size := s, code := (d.code * 256 + d.next.1) % 4294967296 } := by
  unfold Rc.D.pull
  rw [next_resize]

def z58 : Array Value := #[.string ⟨#[]⟩, .int .u64 0, .int .u64 0, .bool false]

set_option maxHeartbeats 2000000 in
set_option maxRecDepth 100000 in
theorem refd_wide (d : Rc.D) (w : World) (hl : d.rest.length ≤ 1000000000) (h1 : 1 ≤ d.size) (h2 : d.size < 4294967296) (hc : d.code < 4294967296) :
    Calls Try.prog 72 #[dV d] w fun r w' => r = .returned (dV d.widen) ∧ Fr (fun _ => False) w w' := by
  have Hl := Lib.hid hl
  have H1 := Lib.hid h1
  have H2 := Lib.hid h2
  have Hc := Lib.hid hc
  clear hl h1 h2 hc
  unfold dV dC
  go_enter Try.func72, Try.ntmps72
  go_wp2
  go_loopg [] 3 (fun n wr => ∃ (x : Rc.D), n ≤ 3 ∧ Hid (x.widenN n = d.widen) ∧ Hid (1 ≤ x.size ∧ x.size < 4294967296 ∧ 16777216 ≤ x.size * 256 ^ n) ∧ Hid (x.rest.length ≤ 1000000000 ∧ x.code < 4294967296) ∧
    Hid (wr.heap[w.heap.size]? = some (.cells (dC x) 58 (0, 0))) ∧ Hid (wr.heap[w.heap.size + 1]? = some (.cells z58 58 (0, 0))) ∧ Hid (Fr (fun _ => False) w wr))
  case atStart =>
    refine ⟨d, Nat.le_refl _, rfl, ⟨H1.out, H2.out, by have := H1.out; omega⟩, ⟨Hl.out, Hc.out⟩, block_alloc (heap_alloc_new w _), ?_, ((Fr.refl _ _).alloc _).alloc _⟩
    have h := heap_alloc_new (w.alloc (.cells (dC d) 58)) (.cells z58 58)
    rw [show (w.alloc (.cells (dC d) 58)).heap.size = w.heap.size + 1 by simp] at h
    exact h
  case round =>
    obtain ⟨x, hn, hw, hx, hb, HB, HZ, HF⟩ := hrel
    clear H1 H2 Hc Hl
    have d0 : wr.cell? ⟨w.heap.size, 0, none⟩ = some (.string ⟨x.rest.toArray⟩) := (cell_of HB.out 0).trans rfl
    have d1 : wr.cell? ⟨w.heap.size, 1, none⟩ = some (.int .u64 (x.code : Int)) := (cell_of HB.out 1).trans rfl
    have d2 : wr.cell? ⟨w.heap.size, 2, none⟩ = some (.int .u64 (x.size : Int)) := (cell_of HB.out 2).trans rfl
    have d3 : wr.cell? ⟨w.heap.size, 3, none⟩ = some (.bool x.bad) := (cell_of HB.out 3).trans rfl
    by_cases hlt : x.size < 16777216
    · obtain ⟨m, rfl⟩ : ∃ m, gk = m + 1 := ⟨gk - 1, by
        have := hx.out.2.2
        rcases gk with _ | m
        · simp at this; omega
        · rfl⟩
      have hw' : Hid (({ x with size := x.size * 256 } : Rc.D).pull.widenN m = d.widen) := by
        have := hw.out
        unfold Rc.D.widenN at this
        rw [if_pos hlt] at this
        exact this
      have hp := pull_resize x (x.size * 256)
      have hnc := next_code x
      have hnl := next_lt x
      have hx' : Hid (1 ≤ ({ x with size := x.size * 256 } : Rc.D).pull.size ∧ ({ x with size := x.size * 256 } : Rc.D).pull.size < 4294967296 ∧ 16777216 ≤ ({ x with size := x.size * 256 } : Rc.D).pull.size * 256 ^ m) := by
        rw [(pull_size _).1]
        dsimp only
        obtain ⟨q1, q2, q3⟩ := hx.out
        refine ⟨by omega, by omega, ?_⟩
        rw [Nat.pow_succ, Nat.mul_comm (256 ^ m), ← Nat.mul_assoc] at q3
        exact q3
      have hb' : Hid (({ x with size := x.size * 256 } : Rc.D).pull.rest.length ≤ 1000000000 ∧ ({ x with size := x.size * 256 } : Rc.D).pull.code < 4294967296) := by
        have h := pull_size ({ x with size := x.size * 256 } : Rc.D)
        exact ⟨Nat.le_trans h.2.1 hb.out.1, h.2.2⟩
      have hnx := refd_next x wr hb.out.1
      obtain ⟨y, hy⟩ : ∃ y, x.next.2 = y := ⟨_, rfl⟩
      obtain ⟨b, hbb⟩ : ∃ b, x.next.1 = b := ⟨_, rfl⟩
      rw [hy] at hnc
      rw [hy, hbb] at hp hnx
      rw [hbb] at hnl
      unfold dV dC at hnx
      rw [hnc.1, hnc.2.1] at hnx
      have Hnx := Lib.hid hnx
      have Hp := Lib.hid hp
      have hlt' : decide ((x.size : Int) < 16777216) = true := by simp; omega
      have hs32 : (x.size : Int) < 16777216 := by omega
      have hc32 : (x.code : Int) < 4294967296 := by have := hb.out.2; omega
      have hb32 : (b : Int) < 256 := by omega
      clear hnx hp hnc hnl hlt hy hbb hw hx hb
      go_wp2_with (go_at_call 71; refine Hnx.out.mono ?_; rintro r w1 ⟨rfl, h2⟩; have hB1 := h2.keep HB.out (fun h => h); have HB1 := Lib.hid hB1; have HZ1 := Lib.hid (h2.keep HZ.out (fun h => h)); have HF1 := Lib.hid (HF.out.trans h2 (fun _ h => .inl h)); have k0 : w1.cell? ⟨w.heap.size, 0, none⟩ = some (.string ⟨x.rest.toArray⟩) := (cell_of hB1 0).trans rfl; have k1 : w1.cell? ⟨w.heap.size, 1, none⟩ = some (.int .u64 (x.code : Int)) := (cell_of hB1 1).trans rfl; have k2 : w1.cell? ⟨w.heap.size, 2, none⟩ = some (.int .u64 (x.size : Int)) := (cell_of hB1 2).trans rfl; have k3 : w1.cell? ⟨w.heap.size, 3, none⟩ = some (.bool x.bad) := (cell_of hB1 3).trans rfl; have kf0 := free_of hB1 0; have kf1 := free_of hB1 1; have kf2 := free_of hB1 2; have kf3 := free_of hB1 3; clear h2 hB1)
      go_roundg m
      case rel =>
        have q1 := blk_set4 HB1.out (.string ⟨y.rest.toArray⟩) (.int .u64 (x.code : Int)) (.int .u64 (x.size : Int)) (.bool y.bad)
        have q2 := block_setCell q1 (off := 2) (.int .u64 ((x.size : Int) * 256))
        have q3 := block_setCell q2 (off := 1) (.int .u64 ((256 * (x.code : Int) + (b : Int)) % 4294967296))
        refine ⟨_, by omega, hw', hx', hb', ?_, ?_, ((fr_set4 HF1.out (Nat.le_refl _) _ _ _ _).setCell _ _ (.inr (Nat.le_refl _))).setCell _ _ (.inr (Nat.le_refl _))⟩
        · show _ = _
          rw [q3, Hp.out]
          have hcode : ((((x.code * 256 + b) % 4294967296 : Nat)) : Int) = (256 * (x.code : Int) + (b : Int)) % 4294967296 := by omega
          unfold dC
          simp [hcode]
        · exact block_setCell_other (block_setCell_other (blk_oth4 HZ1.out (by omega) _ _ _ _) (by omega) _) (by omega) _
      case measure => omega
    · have hfin : x = d.widen := by
        have := hw.out
        rcases gk with _ | m
        · exact this
        · unfold Rc.D.widenN at this
          rw [if_neg hlt] at this
          exact this
      have Hfin := Lib.hid hfin
      have hlt' : decide ((x.size : Int) < 16777216) = false := by simp; omega
      have z0 : wr.cell? ⟨w.heap.size + 1, 0, none⟩ = some (.string ⟨#[]⟩) := (cell_of HZ.out 0).trans rfl
      have z1 : wr.cell? ⟨w.heap.size + 1, 1, none⟩ = some (.int .u64 0) := (cell_of HZ.out 1).trans rfl
      have z2 : wr.cell? ⟨w.heap.size + 1, 2, none⟩ = some (.int .u64 0) := (cell_of HZ.out 2).trans rfl
      have z3 : wr.cell? ⟨w.heap.size + 1, 3, none⟩ = some (.bool false) := (cell_of HZ.out 3).trans rfl
      have zf0 := free_of HZ.out 0
      have zf1 := free_of HZ.out 1
      have zf2 := free_of HZ.out 2
      have zf3 := free_of HZ.out 3
      clear hfin hw hx hb hlt
      go_wp2
      refine bodyPost_ret (v := .agg #[.string ⟨x.rest.toArray⟩, .int .u64 (x.code : Int), .int .u64 (x.size : Int), .bool x.bad]) ?_ rfl ⟨by rw [← Hfin.out], fr_set4 HF.out (by simp) _ _ _ _⟩
      simp [results, Try.results72, go_sem, z0, z1, z2, z3]

set_option maxHeartbeats 2000000 in
set_option maxRecDepth 100000 in
theorem refd_bit (d : Rc.D) (p : Nat) (w : World) (hg : DecG d) (hx : Rc.PrOk p) :
    Calls Try.prog 35 #[dV d, .int .u64 (p : Int)] w fun r w' => r = .returned (.tuple #[dV (d.bit p).2, .int .u64 (Rc.learn p (d.bit p).1 : Nat), .int .i64 ((d.bit p).1 : Int)]) ∧ Fr (fun _ => False) w w' := by
  have hbd := Rc.bound_in hg.lo hx
  have hhi := hg.hi
  have hx0 : 0 ≤ (p : Int) := by omega
  have hx1 : (p : Int) ≤ 2048 := by have := hx.2; omega
  have e1 : ((Rc.bound d.size p : Nat) : Int) = (d.size : Int) / 2048 * (p : Int) := by unfold Rc.bound; simp
  obtain ⟨B, hB⟩ : ∃ B, Rc.bound d.size p = B := ⟨_, rfl⟩
  rw [hB] at e1 hbd
  have hwr : IntKind.u64.wrap ((d.size : Int) / 2048 * (p : Int)) = (B : Int) := by rw [← e1]; exact IntWalk.u64_in _ (by omega)
  have hp2 : p ≤ 2048 := by have := hx.2; omega
  have hS0 : 0 ≤ (d.size : Int) := by omega
  have hS1 : (d.size : Int) < 4294967296 := by omega
  have hC1 : (d.code : Int) < 4294967296 := by have := hg.code; omega
  have Hg := Lib.hid hg
  have HB := Lib.hid hB
  have Hbd := Lib.hid hbd
  have Hp2 := Lib.hid hp2
  clear hg hx hbd hhi e1 hB hp2
  by_cases h0 : d.code < B
  · have h0' : decide (d.code < B) = true := by simpa using h0
    have hbit : d.bit p = (0, ({ d with size := B } : Rc.D).widen) := by unfold Rc.D.bit; rw [HB.out, if_pos h0]
    have hwd : ∀ W, Calls Try.prog 72 #[dV { d with size := B }] W fun r w' => r = .returned (dV ({ d with size := B } : Rc.D).widen) ∧ Fr (fun _ => False) W w' := fun W => refd_wide { d with size := B } W Hg.out.len Hbd.out.1 (by have := Hbd.out; have := Hg.out.hi; dsimp only; omega) Hg.out.code
    have hlrn := ref_learn p 0 Hp2.out
    have Hlrn := Lib.hid hlrn
    obtain ⟨y, hy⟩ : ∃ y, ({ d with size := B } : Rc.D).widen = y := ⟨_, rfl⟩
    rw [hbit]
    rw [hy] at hwd ⊢
    unfold dV dC at hwd ⊢
    dsimp only at hwd ⊢
    have Hwd0 := Lib.hid hwd
    clear h0 hbit hwd hy hlrn
    go_enter Try.func35, Try.ntmps35
    go_upto_region 8 with fail
    obtain ⟨W, hW⟩ : ∃ W, (w.alloc (.cells #[.string ⟨d.rest.toArray⟩, .int .u64 (d.code : Int), .int .u64 (B : Int), .bool d.bad] 58)).alloc (.cells z58 58) = W := ⟨_, rfl⟩
    have hz := heap_alloc_new (w.alloc (.cells #[.string ⟨d.rest.toArray⟩, .int .u64 (d.code : Int), .int .u64 (B : Int), .bool d.bad] 58)) (.cells z58 58)
    rw [hW, show (w.alloc (.cells #[.string ⟨d.rest.toArray⟩, .int .u64 (d.code : Int), .int .u64 (B : Int), .bool d.bad] 58)).heap.size = w.heap.size + 1 by simp] at hz
    have hf : Fr (fun _ => False) w W := by rw [← hW]; exact ((Fr.refl _ _).alloc _).alloc _
    have hb0 : W.heap[w.heap.size]? = some (.cells #[.string ⟨d.rest.toArray⟩, .int .u64 (d.code : Int), .int .u64 (B : Int), .bool d.bad] 58 (0, 0)) := by rw [← hW]; exact block_alloc (heap_alloc_new w _)
    unfold z58 at hW
    rw [hW]
    have g0 := (cell_of hb0 0)
    have g1 := (cell_of hb0 1)
    have g2 := (cell_of hb0 2)
    have g3 := (cell_of hb0 3)
    simp only [List.getElem?_toArray, List.getElem?_cons_zero, List.getElem?_cons_succ] at g0 g1 g2 g3
    have Hz := Lib.hid hz
    have Hf := Lib.hid hf
    clear hW hz hf hb0
    have Hwd := Lib.hid (Hwd0.out W)
    go_wp2_with (first | (go_at_call 72; refine Hwd.out.mono ?_; rintro e w3 ⟨rfl, f3⟩; have hz3 := f3.keep Hz.out (fun h => h); have HF := Lib.hid (Hf.out.trans f3 (fun _ h => .inl h)); have z0 : w3.cell? ⟨w.heap.size + 1, 0, none⟩ = some (.string ⟨#[]⟩) := (cell_of hz3 0).trans rfl; have z1 : w3.cell? ⟨w.heap.size + 1, 1, none⟩ = some (.int .u64 0) := (cell_of hz3 1).trans rfl; have z2 : w3.cell? ⟨w.heap.size + 1, 2, none⟩ = some (.int .u64 0) := (cell_of hz3 2).trans rfl; have z3 : w3.cell? ⟨w.heap.size + 1, 3, none⟩ = some (.bool false) := (cell_of hz3 3).trans rfl; have zf0 := free_of hz3 0; have zf1 := free_of hz3 1; have zf2 := free_of hz3 2; have zf3 := free_of hz3 3; clear f3 hz3) | (go_at_call 67; refine (Hlrn.out _).mono ?_; rintro e w4 ⟨rfl, rfl⟩))
    refine bodyPost_ret (v := .tuple #[.agg #[.string ⟨y.rest.toArray⟩, .int .u64 (y.code : Int), .int .u64 (y.size : Int), .bool y.bad], .int .u64 (Rc.learn p 0 : Nat), .int .i64 0]) ?_ rfl ⟨rfl, fr_set4 HF.out (by simp) _ _ _ _⟩
    simp [results, Try.results35, go_sem, z0, z1, z2, z3]
  · have h0' : decide (d.code < B) = false := by simpa using h0
    have hbit : d.bit p = (1, ({ d with code := d.code - B, size := d.size - B } : Rc.D).widen) := by unfold Rc.D.bit; rw [HB.out, if_neg h0]
    have hwd : ∀ W, Calls Try.prog 72 #[dV { d with code := d.code - B, size := d.size - B }] W fun r w' => r = .returned (dV ({ d with code := d.code - B, size := d.size - B } : Rc.D).widen) ∧ Fr (fun _ => False) W w' := fun W => refd_wide { d with code := d.code - B, size := d.size - B } W Hg.out.len (by have := Hbd.out; dsimp only; omega) (by have := Hg.out.hi; dsimp only; omega) (by have := Hg.out.code; dsimp only; omega)
    have hlrn := ref_learn p 1 Hp2.out
    have Hlrn := Lib.hid hlrn
    obtain ⟨y, hy⟩ : ∃ y, ({ d with code := d.code - B, size := d.size - B } : Rc.D).widen = y := ⟨_, rfl⟩
    rw [hbit]
    rw [hy] at hwd ⊢
    unfold dV dC at hwd ⊢
    dsimp only at hwd ⊢
    rw [show ((d.code - B : Nat) : Int) = (d.code : Int) - (B : Int) by omega, show ((d.size - B : Nat) : Int) = (d.size : Int) - (B : Int) by have := Hbd.out; omega] at hwd
    have hBc : (B : Int) ≤ (d.code : Int) := by omega
    have hBs : (B : Int) ≤ (d.size : Int) := by have := Hbd.out; omega
    have Hwd0 := Lib.hid hwd
    clear h0 hbit hwd hy hlrn
    go_enter Try.func35, Try.ntmps35
    go_upto_region 8 with fail
    obtain ⟨W, hW⟩ : ∃ W, (w.alloc (.cells #[.string ⟨d.rest.toArray⟩, .int .u64 ((d.code : Int) - (B : Int)), .int .u64 ((d.size : Int) - (B : Int)), .bool d.bad] 58)).alloc (.cells z58 58) = W := ⟨_, rfl⟩
    have hz := heap_alloc_new (w.alloc (.cells #[.string ⟨d.rest.toArray⟩, .int .u64 ((d.code : Int) - (B : Int)), .int .u64 ((d.size : Int) - (B : Int)), .bool d.bad] 58)) (.cells z58 58)
    rw [hW, show (w.alloc (.cells #[.string ⟨d.rest.toArray⟩, .int .u64 ((d.code : Int) - (B : Int)), .int .u64 ((d.size : Int) - (B : Int)), .bool d.bad] 58)).heap.size = w.heap.size + 1 by simp] at hz
    have hf : Fr (fun _ => False) w W := by rw [← hW]; exact ((Fr.refl _ _).alloc _).alloc _
    have hb0 : W.heap[w.heap.size]? = some (.cells #[.string ⟨d.rest.toArray⟩, .int .u64 ((d.code : Int) - (B : Int)), .int .u64 ((d.size : Int) - (B : Int)), .bool d.bad] 58 (0, 0)) := by rw [← hW]; exact block_alloc (heap_alloc_new w _)
    unfold z58 at hW
    rw [hW]
    have g0 := (cell_of hb0 0)
    have g1 := (cell_of hb0 1)
    have g2 := (cell_of hb0 2)
    have g3 := (cell_of hb0 3)
    simp only [List.getElem?_toArray, List.getElem?_cons_zero, List.getElem?_cons_succ] at g0 g1 g2 g3
    have Hz := Lib.hid hz
    have Hf := Lib.hid hf
    clear hW hz hf hb0
    have Hwd := Lib.hid (Hwd0.out W)
    go_wp2_with (first | (go_at_call 72; refine Hwd.out.mono ?_; rintro e w3 ⟨rfl, f3⟩; have hz3 := f3.keep Hz.out (fun h => h); have HF := Lib.hid (Hf.out.trans f3 (fun _ h => .inl h)); have z0 : w3.cell? ⟨w.heap.size + 1, 0, none⟩ = some (.string ⟨#[]⟩) := (cell_of hz3 0).trans rfl; have z1 : w3.cell? ⟨w.heap.size + 1, 1, none⟩ = some (.int .u64 0) := (cell_of hz3 1).trans rfl; have z2 : w3.cell? ⟨w.heap.size + 1, 2, none⟩ = some (.int .u64 0) := (cell_of hz3 2).trans rfl; have z3 : w3.cell? ⟨w.heap.size + 1, 3, none⟩ = some (.bool false) := (cell_of hz3 3).trans rfl; have zf0 := free_of hz3 0; have zf1 := free_of hz3 1; have zf2 := free_of hz3 2; have zf3 := free_of hz3 3; clear f3 hz3) | (go_at_call 67; refine (Hlrn.out _).mono ?_; rintro e w4 ⟨rfl, rfl⟩))
    refine bodyPost_ret (v := .tuple #[.agg #[.string ⟨y.rest.toArray⟩, .int .u64 (y.code : Int), .int .u64 (y.size : Int), .bool y.bad], .int .u64 (Rc.learn p 1 : Nat), .int .i64 1]) ?_ rfl ⟨rfl, fr_set4 HF.out (by simp) _ _ _ _⟩
    simp [results, Try.results35, go_sem, z0, z1, z2, z3]

set_option maxHeartbeats 2000000 in
set_option maxRecDepth 100000 in
theorem refd_direct (d : Rc.D) (w : World) (hg : DecG d) :
    Calls Try.prog 32 #[dV d] w fun r w' => r = .returned (.tuple #[dV d.direct.2, .int .i64 (d.direct.1 : Int)]) ∧ Fr (fun _ => False) w w' := by
  have hhi := hg.hi
  have hlo := hg.lo
  obtain ⟨B, hB⟩ : ∃ B, d.size / 2 = B := ⟨_, rfl⟩
  have hBi : (d.size : Int) / 2 = (B : Int) := by omega
  have hS0 : 0 ≤ (d.size : Int) := by omega
  have hS1 : (d.size : Int) < 4294967296 := by omega
  have hB1 : (B : Int) < 4294967296 := by omega
  have hC1 : (d.code : Int) < 4294967296 := by have := hg.code; omega
  have Hg := Lib.hid hg
  have HB := Lib.hid hB
  have Hlo := Lib.hid hlo
  clear hg hhi hlo hB
  by_cases h0 : d.code < B
  · have h0' : decide (B ≤ d.code) = false := by simpa using h0
    have h0'' : decide ((B : Int) ≤ (d.code : Int)) = false := by simp; omega
    have hbit : d.direct = (0, ({ d with size := B } : Rc.D).widen) := by unfold Rc.D.direct; rw [HB.out, if_pos h0]
    have hwd : ∀ W, Calls Try.prog 72 #[dV { d with size := B }] W fun r w' => r = .returned (dV ({ d with size := B } : Rc.D).widen) ∧ Fr (fun _ => False) W w' := fun W => refd_wide { d with size := B } W Hg.out.len (by have := HB.out; have := Hlo.out; dsimp only; omega) (by have := HB.out; have := Hg.out.hi; dsimp only; omega) Hg.out.code
    obtain ⟨y, hy⟩ : ∃ y, ({ d with size := B } : Rc.D).widen = y := ⟨_, rfl⟩
    rw [hbit]
    rw [hy] at hwd ⊢
    unfold dV dC at hwd ⊢
    dsimp only at hwd ⊢
    have Hwd0 := Lib.hid hwd
    clear h0 hbit hwd hy
    go_enter Try.func32, Try.ntmps32
    go_upto_region 6 with fail
    obtain ⟨W, hW⟩ : ∃ W, (w.alloc (.cells #[.string ⟨d.rest.toArray⟩, .int .u64 (d.code : Int), .int .u64 (B : Int), .bool d.bad] 58)).alloc (.cells z58 58) = W := ⟨_, rfl⟩
    have hz := heap_alloc_new (w.alloc (.cells #[.string ⟨d.rest.toArray⟩, .int .u64 (d.code : Int), .int .u64 (B : Int), .bool d.bad] 58)) (.cells z58 58)
    rw [hW, show (w.alloc (.cells #[.string ⟨d.rest.toArray⟩, .int .u64 (d.code : Int), .int .u64 (B : Int), .bool d.bad] 58)).heap.size = w.heap.size + 1 by simp] at hz
    have hf : Fr (fun _ => False) w W := by rw [← hW]; exact ((Fr.refl _ _).alloc _).alloc _
    have hb0 : W.heap[w.heap.size]? = some (.cells #[.string ⟨d.rest.toArray⟩, .int .u64 (d.code : Int), .int .u64 (B : Int), .bool d.bad] 58 (0, 0)) := by rw [← hW]; exact block_alloc (heap_alloc_new w _)
    unfold z58 at hW
    rw [hW]
    have g0 := (cell_of hb0 0)
    have g1 := (cell_of hb0 1)
    have g2 := (cell_of hb0 2)
    have g3 := (cell_of hb0 3)
    simp only [List.getElem?_toArray, List.getElem?_cons_zero, List.getElem?_cons_succ] at g0 g1 g2 g3
    have Hz := Lib.hid hz
    have Hf := Lib.hid hf
    clear hW hz hf hb0
    have Hwd := Lib.hid (Hwd0.out W)
    go_wp2_with ((go_at_call 72; refine Hwd.out.mono ?_; rintro e w3 ⟨rfl, f3⟩; have hz3 := f3.keep Hz.out (fun h => h); have HF := Lib.hid (Hf.out.trans f3 (fun _ h => .inl h)); have z0 : w3.cell? ⟨w.heap.size + 1, 0, none⟩ = some (.string ⟨#[]⟩) := (cell_of hz3 0).trans rfl; have z1 : w3.cell? ⟨w.heap.size + 1, 1, none⟩ = some (.int .u64 0) := (cell_of hz3 1).trans rfl; have z2 : w3.cell? ⟨w.heap.size + 1, 2, none⟩ = some (.int .u64 0) := (cell_of hz3 2).trans rfl; have z3 : w3.cell? ⟨w.heap.size + 1, 3, none⟩ = some (.bool false) := (cell_of hz3 3).trans rfl; have zf0 := free_of hz3 0; have zf1 := free_of hz3 1; have zf2 := free_of hz3 2; have zf3 := free_of hz3 3; clear f3 hz3))
    refine bodyPost_ret (v := .tuple #[.agg #[.string ⟨y.rest.toArray⟩, .int .u64 (y.code : Int), .int .u64 (y.size : Int), .bool y.bad], .int .i64 0]) ?_ rfl ⟨rfl, fr_set4 HF.out (by simp) _ _ _ _⟩
    simp [results, Try.results32, go_sem, z0, z1, z2, z3]
  · have h0' : decide (B ≤ d.code) = true := by simp; omega
    have h0'' : decide ((B : Int) ≤ (d.code : Int)) = true := by simp; omega
    have hbit : d.direct = (1, ({ d with code := d.code - B, size := B } : Rc.D).widen) := by unfold Rc.D.direct; rw [HB.out, if_neg h0]
    have hwd : ∀ W, Calls Try.prog 72 #[dV { d with code := d.code - B, size := B }] W fun r w' => r = .returned (dV ({ d with code := d.code - B, size := B } : Rc.D).widen) ∧ Fr (fun _ => False) W w' := fun W => refd_wide { d with code := d.code - B, size := B } W Hg.out.len (by have := HB.out; have := Hlo.out; dsimp only; omega) (by have := HB.out; have := Hg.out.hi; dsimp only; omega) (by have := Hg.out.code; dsimp only; omega)
    obtain ⟨y, hy⟩ : ∃ y, ({ d with code := d.code - B, size := B } : Rc.D).widen = y := ⟨_, rfl⟩
    rw [hbit]
    rw [hy] at hwd ⊢
    unfold dV dC at hwd ⊢
    dsimp only at hwd ⊢
    rw [show ((d.code - B : Nat) : Int) = (d.code : Int) - (B : Int) by omega] at hwd
    have hBc : (B : Int) ≤ (d.code : Int) := by omega
    have Hwd0 := Lib.hid hwd
    clear h0 hbit hwd hy
    go_enter Try.func32, Try.ntmps32
    go_upto_region 6 with fail
    obtain ⟨W, hW⟩ : ∃ W, (w.alloc (.cells #[.string ⟨d.rest.toArray⟩, .int .u64 ((d.code : Int) - (B : Int)), .int .u64 (B : Int), .bool d.bad] 58)).alloc (.cells z58 58) = W := ⟨_, rfl⟩
    have hz := heap_alloc_new (w.alloc (.cells #[.string ⟨d.rest.toArray⟩, .int .u64 ((d.code : Int) - (B : Int)), .int .u64 (B : Int), .bool d.bad] 58)) (.cells z58 58)
    rw [hW, show (w.alloc (.cells #[.string ⟨d.rest.toArray⟩, .int .u64 ((d.code : Int) - (B : Int)), .int .u64 (B : Int), .bool d.bad] 58)).heap.size = w.heap.size + 1 by simp] at hz
    have hf : Fr (fun _ => False) w W := by rw [← hW]; exact ((Fr.refl _ _).alloc _).alloc _
    have hb0 : W.heap[w.heap.size]? = some (.cells #[.string ⟨d.rest.toArray⟩, .int .u64 ((d.code : Int) - (B : Int)), .int .u64 (B : Int), .bool d.bad] 58 (0, 0)) := by rw [← hW]; exact block_alloc (heap_alloc_new w _)
    unfold z58 at hW
    rw [hW]
    have g0 := (cell_of hb0 0)
    have g1 := (cell_of hb0 1)
    have g2 := (cell_of hb0 2)
    have g3 := (cell_of hb0 3)
    simp only [List.getElem?_toArray, List.getElem?_cons_zero, List.getElem?_cons_succ] at g0 g1 g2 g3
    have Hz := Lib.hid hz
    have Hf := Lib.hid hf
    clear hW hz hf hb0
    have Hwd := Lib.hid (Hwd0.out W)
    go_wp2_with ((go_at_call 72; refine Hwd.out.mono ?_; rintro e w3 ⟨rfl, f3⟩; have hz3 := f3.keep Hz.out (fun h => h); have HF := Lib.hid (Hf.out.trans f3 (fun _ h => .inl h)); have z0 : w3.cell? ⟨w.heap.size + 1, 0, none⟩ = some (.string ⟨#[]⟩) := (cell_of hz3 0).trans rfl; have z1 : w3.cell? ⟨w.heap.size + 1, 1, none⟩ = some (.int .u64 0) := (cell_of hz3 1).trans rfl; have z2 : w3.cell? ⟨w.heap.size + 1, 2, none⟩ = some (.int .u64 0) := (cell_of hz3 2).trans rfl; have z3 : w3.cell? ⟨w.heap.size + 1, 3, none⟩ = some (.bool false) := (cell_of hz3 3).trans rfl; have zf0 := free_of hz3 0; have zf1 := free_of hz3 1; have zf2 := free_of hz3 2; have zf3 := free_of hz3 3; clear f3 hz3))
    refine bodyPost_ret (v := .tuple #[.agg #[.string ⟨y.rest.toArray⟩, .int .u64 (y.code : Int), .int .u64 (y.size : Int), .bool y.bad], .int .i64 1]) ?_ rfl ⟨rfl, fr_set4 HF.out (by simp) _ _ _ _⟩
    simp [results, Try.results32, go_sem, z0, z1, z2, z3]
end Go.Proofs.Ytpddocehjljofaa
