/- Walks of layer 23 (sha): a chunk mixed into a sum. -/
import Derived.Test.YtmcenocmilhekaaDoorSh2
import Derived.Laws.CopyRow
namespace Go.Proofs.YtmcenocmilhekaaDoor
set_option linter.unusedVariables false
open Go.RowKit Go.My Go.Sha

/-- The program's own tables. -/
structure KTab (w : World) : Prop where
  h : ∀ i, i < 8 → w.cell? ⟨0, i, none⟩ = some (.int .u32 (first.list.getD i 0 : Nat))
  k : ∀ t, t < 64 → w.cell? ⟨1, t, none⟩ = some (.int .u32 (kk.getD t 0 : Nat))
theorem KTab.keep {w w' : World} (h : KTab w) (hf : Fr (fun _ => False) w w') : KTab w' :=
  ⟨fun i hi => hf.cell_ (h.h i hi) (fun x => x), fun t ht => hf.cell_ (h.k t ht) (fun x => x)⟩
structure H8.Ok (v : H8) : Prop where
  a : v.a < 4294967296
  b : v.b < 4294967296
  c : v.c < 4294967296
  d : v.d < 4294967296
  e : v.e < 4294967296
  f : v.f < 4294967296
  g : v.g < 4294967296
  h : v.h < 4294967296
theorem H8.Ok.step {v : H8} (h : H8.Ok v) (k w : Nat) : H8.Ok (Sha.step v k w) := ⟨Nat.mod_lt _ (by decide), h.a, h.b, h.c, Nat.mod_lt _ (by decide), h.e, h.f, h.g⟩
theorem H8.Ok.rnd {v : H8} (h : H8.Ok v) (W : List Nat) (t : Nat) : H8.Ok (rnd W t v) := by
  induction t with
  | zero => exact h
  | succ t ih => exact ih.step _ _
theorem H8.Ok.plus (u v : H8) : H8.Ok (plus u v) :=
  ⟨Nat.mod_lt _ (by decide), Nat.mod_lt _ (by decide), Nat.mod_lt _ (by decide), Nat.mod_lt _ (by decide), Nat.mod_lt _ (by decide), Nat.mod_lt _ (by decide), Nat.mod_lt _ (by decide), Nat.mod_lt _ (by decide)⟩
theorem big1_is (x : Nat) (hx : x < 4294967296) : Go.bits .xor .u32 (Go.bits .xor .u32 (ror x 6 : Nat) (ror x 11 : Nat)) (ror x 25 : Nat) = (big1 x : Nat) :=
  xor3 _ _ _ (ror_lt x 6 hx (by decide)) (ror_lt x 11 hx (by decide)) (ror_lt x 25 hx (by decide))
theorem big0_is (x : Nat) (hx : x < 4294967296) : Go.bits .xor .u32 (Go.bits .xor .u32 (ror x 2 : Nat) (ror x 13 : Nat)) (ror x 22 : Nat) = (big0 x : Nat) :=
  xor3 _ _ _ (ror_lt x 2 hx (by decide)) (ror_lt x 13 hx (by decide)) (ror_lt x 22 hx (by decide))
theorem and_lt (a b : Nat) (ha : a < 4294967296) : a &&& b < 4294967296 := Nat.lt_of_le_of_lt Nat.and_le_left ha
theorem maj_is (a b c : Nat) (ha : a < 4294967296) (hb : b < 4294967296) (hc : c < 4294967296) :
    Go.bits .xor .u32 (Go.bits .xor .u32 (Go.bits .and .u32 (a : Int) (b : Int)) (Go.bits .and .u32 (a : Int) (c : Int))) (Go.bits .and .u32 (b : Int) (c : Int)) = (maj a b c : Nat) := by
  rw [and32 a b ha hb, and32 a c ha hc, and32 b c hb hc]
  exact xor3 _ _ _ (and_lt a b ha) (and_lt a c ha) (and_lt b c hb)
theorem chs_is (e f g : Nat) (he : e < 4294967296) (hf : f < 4294967296) (hg : g < 4294967296) (y : Int) (hy : y = ((4294967295 - e : Nat) : Int)) :
    Go.bits .xor .u32 (Go.bits .and .u32 (e : Int) (f : Int)) (Go.bits .and .u32 y (g : Int)) = (chs e f g : Nat) := by
  rw [hy, and32 e f he hf, and32 _ g (by omega) hg]
  exact xor32 _ _ (and_lt e f he) (and_lt _ g (by omega))

theorem u32s_index (l : List Nat) (ty e : TypeId) (n i : Nat) (hu : Tryd.prog.underlying ty = some (.array n e)) (hs : (Tryd.prog.info? e).map (·.size) = some 1) (hsc : (Tryd.prog.underlying e) = some (.int .u32)) (h : i < n) (hl : l.length = n) (w : World) :
    (Instr.index ty (.agg (u32s l)) (.int .i64 (i : Int))).run Tryd.prog w = .ok (.int .u32 (l.getD i 0 : Nat)) w := by
  obtain ⟨ti, hti, hts⟩ : ∃ ti, Tryd.prog.info? e = some ti ∧ ti.size = 1 := by
    cases hq : Tryd.prog.info? e with
    | none => simp [hq] at hs
    | some ti => exact ⟨ti, rfl, by simpa [hq] using hs⟩
  have hg := u32s_get l i (by omega)
  simp [Instr.index, go_sem, run_underlying hu, run_underlying hsc, h, sizeOf, typeInfo, hti, hts, part, hg, isAgg]

theorem right_q (x n m : Nat) (k : Int) (hkn : k = n) (hx : x < 4294967296) (hm : n + m = 32) (hk : Go.bits .and .u64 (IntKind.u64.wrap (-(n : Int))) 31 = (m : Int)) (w : World) :
    Calls Tryd.prog 26 #[.int .u32 (x : Int), .int .i64 k] w fun e w' => e = .returned (.int .u32 (ror x n : Nat)) ∧ w' = w := by
  subst hkn
  exact (right_is x n m hx hm hk w).mono fun _ _ ⟨a, b⟩ => ⟨a, b.symm⟩

theorem ones_xor (n : Nat) (h : n < 4294967296) : n ^^^ 4294967295 = 4294967295 - n := by
  have h2 : (BitVec.ofNat 32 n ^^^ BitVec.allOnes 32).toNat = 4294967295 - n := by
    rw [BitVec.xor_allOnes, BitVec.toNat_not, BitVec.toNat_ofNat, Nat.mod_eq_of_lt h]
  rw [← h2, BitVec.toNat_xor, BitVec.toNat_allOnes, BitVec.toNat_ofNat, Nat.mod_eq_of_lt h]

/-- What stands between two rounds. -/
structure MixSt (w wr : World) (v : H8) (W : List Nat) (p2 p4 p5 t : Nat) : Prop where
  fr : Fr (fun _ => False) w wr
  b2 : wr.heap[p2]? = some (.cells (u32s v.list) 41 (0, 0))
  b4 : wr.heap[p4]? = some (.cells (u32s [0, 0, 0, 0, 0, 0, 0, 0]) 41 (0, 0))
  b5 : wr.heap[p5]? = some (.cells (u32s (rnd W t v).list) 41 (0, 0))

theorem MixSt.drewN {w wr : World} {v : H8} {W : List Nat} {p2 p4 p5 t : Nat} (h : MixSt w wr v W p2 p4 p5 t) (n : Nat) : MixSt w (wr.drewN n) v W p2 p4 p5 t := ⟨h.fr.drewN n, h.b2, h.b4, h.b5⟩

set_option maxHeartbeats 4000000 in
set_option maxRecDepth 100000 in
theorem mix_is (v : H8) (hv : H8.Ok v) (s : ByteArray) (f : Nat → Nat) (hs : s.size = 64) (hf : ∀ i (h : i < s.size), (s[i]).toNat = f i) (hfl : ∀ i, f i < 256) (w : World) (hT : KTab w) :
    Calls Tryd.prog 18 #[.agg (u32s v.list), .string s] w fun e w' => e = .returned (.agg (u32s (mix v f).list)) ∧ Fr (fun _ => False) w w' := by
  have hsp := spread_is s f hs hf hfl
  have Hsp := Lib.hid hsp
  have HT := Lib.hid hT
  have hWl := sched_length f 64
  have hWb := getD_lt (sched_lt f hfl 64)
  obtain ⟨W, hW⟩ : ∃ W, sched f 64 = W := ⟨_, rfl⟩
  have hmx : mix v f = plus v (rnd W 64 v) := by unfold mix; rw [hW]
  rw [hW] at Hsp hWl hWb
  rw [hmx]
  have HWl := Lib.hid hWl
  have HWb := Lib.hid hWb
  clear hsp hf hfl hs hT hWl hWb hmx hW
  obtain ⟨V, hV⟩ : ∃ V, v = V := ⟨_, rfl⟩
  have hVo : H8.Ok V := by rw [← hV]; exact hv
  have hVl : u32s V.list = #[.int .u32 (v.a : Int), .int .u32 (v.b : Int), .int .u32 (v.c : Int), .int .u32 (v.d : Int), .int .u32 (v.e : Int), .int .u32 (v.f : Int), .int .u32 (v.g : Int), .int .u32 (v.h : Int)] := by rw [← hV]; rfl
  obtain ⟨a0, b0, c0, d0, e0, f0, g0, h0⟩ := v
  rw [hV, hVl]
  have HVo := Lib.hid hVo
  have HVl := Lib.hid hVl
  clear hVo hVl hv hV
  dsimp only at HVl ⊢
  go_enter Tryd.func18, Tryd.ntmps18
  go_upto_block 0 with (go_at_call 25; refine (Hsp.out _).mono ?_; rintro e w1 ⟨rfl, h1⟩; have HF1 := Lib.hid h1; clear h1)
  have hst : ∃ p2 p4 p5, w.heap.size = p2 ∧ w.heap.size + 1 = p4 ∧ w.heap.size + 1 + 1 = p5 := ⟨_, _, _, rfl, rfl, rfl⟩
  obtain ⟨p2, p4, p5, q2, q4, q5⟩ := hst
  have hM : MixSt w w1 V W p2 p4 p5 0 := by
    have n1 := heap_alloc_new w (.cells (u32s V.list) 41)
    have n2 := heap_alloc_new (w.alloc (.cells (u32s V.list) 41)) (.cells (u32s [0, 0, 0, 0, 0, 0, 0, 0]) 41)
    have n3 := heap_alloc_new ((w.alloc (.cells (u32s V.list) 41)).alloc (.cells (u32s [0, 0, 0, 0, 0, 0, 0, 0]) 41)) (.cells (u32s V.list) 41)
    have n1' := block_alloc (x := .cells (u32s V.list) 41) (block_alloc (x := .cells (u32s [0, 0, 0, 0, 0, 0, 0, 0]) 41) n1)
    have n2' := block_alloc (x := .cells (u32s V.list) 41) n2
    have hF : Fr (fun _ => False) (((w.alloc (.cells (u32s V.list) 41)).alloc (.cells (u32s [0, 0, 0, 0, 0, 0, 0, 0]) 41)).alloc (.cells (u32s V.list) 41)) w1 := by
      rw [HVl.out]; exact HF1.out
    have k1 := hF.keep n1' (fun x => x)
    have k2 := hF.keep n2' (fun x => x)
    have k3 := hF.keep n3 (fun x => x)
    rw [show (w.alloc (.cells (u32s V.list) 41)).heap.size = w.heap.size + 1 by simp] at k2
    rw [show ((w.alloc (.cells (u32s V.list) 41)).alloc (.cells (u32s [0, 0, 0, 0, 0, 0, 0, 0]) 41)).heap.size = w.heap.size + 1 + 1 by simp] at k3
    rw [q2] at k1
    rw [q4] at k2
    rw [q5] at k3
    exact ⟨((((Fr.refl (fun _ => False) w).alloc _).alloc _).alloc _).trans hF (fun _ h => h.elim), k1, k2, k3⟩
  rw [q5, q4, q2]
  have HM := Lib.hid hM
  have Hl2 : Hid (w.heap.size ≤ p2 ∧ w.heap.size ≤ p4 ∧ w.heap.size ≤ p5) := by refine ⟨?_, ?_, ?_⟩ <;> omega
  have n25 : p2 ≠ p5 := by omega
  have n24 : p2 ≠ p4 := by omega
  have n45 : p4 ≠ p5 := by omega
  clear q2 q4 q5 hM HF1
  go_cut [16] (fun _ wx => Hid (MixSt w wx V W p2 p4 p5 64))
  case first =>
    go_wp2
    go_loopw [16] (fun v16 wr => ∃ t : Nat, t ≤ 64 ∧ v16 = .int .i64 (t : Int) ∧ Hid (MixSt w wr V W p2 p4 p5 t)) (fun v16 _ => 64 - (intOf v16).toNat)
    case atStart => exact ⟨0, by omega, rfl, HM⟩
    case round =>
      obtain ⟨t, ht, rfl, KM⟩ := hrel
      clear HM
      by_cases hlt : t < 64
      · have hltI : (t : Int) < 64 := by omega
        have ht0 : (0 : Int) ≤ (t : Int) := by omega
        obtain ⟨x, hx⟩ : ∃ x, W.getD t 0 = x := ⟨_, rfl⟩
        obtain ⟨y, hy⟩ : ∃ y, kk.getD t 0 = y := ⟨_, rfl⟩
        have hix := u32s_index W 46 40 64 t Tryd.underlying46 (by kernel_rfl) Tryd.underlying40 hlt HWl.out
        rw [hx] at hix
        have hck := (HT.out.keep KM.out.fr).k t hlt
        rw [hy] at hck
        obtain ⟨R, hR⟩ : ∃ R, rnd W t V = R := ⟨_, rfl⟩
        have hRo : H8.Ok R := by rw [← hR]; exact HVo.out.rnd W t
        have hR1 : rnd W (t + 1) V = Sha.step R y x := by rw [← hR, ← hx, ← hy]; rfl
        have hb5 := KM.out.b5
        rw [hR] at hb5
        obtain ⟨a, b, c, d, e, ff, g, hh⟩ := R
        have c0 : wr.cell? ⟨p5, 0, none⟩ = some (.int .u32 (a : Int)) := (cell_of hb5 0).trans rfl
        have c1 : wr.cell? ⟨p5, 1, none⟩ = some (.int .u32 (b : Int)) := (cell_of hb5 1).trans rfl
        have c2 : wr.cell? ⟨p5, 2, none⟩ = some (.int .u32 (c : Int)) := (cell_of hb5 2).trans rfl
        have c3 : wr.cell? ⟨p5, 3, none⟩ = some (.int .u32 (d : Int)) := (cell_of hb5 3).trans rfl
        have c4 : wr.cell? ⟨p5, 4, none⟩ = some (.int .u32 (e : Int)) := (cell_of hb5 4).trans rfl
        have c5 : wr.cell? ⟨p5, 5, none⟩ = some (.int .u32 (ff : Int)) := (cell_of hb5 5).trans rfl
        have c6 : wr.cell? ⟨p5, 6, none⟩ = some (.int .u32 (g : Int)) := (cell_of hb5 6).trans rfl
        have c7 : wr.cell? ⟨p5, 7, none⟩ = some (.int .u32 (hh : Int)) := (cell_of hb5 7).trans rfl
        have fr5 : ∀ j, wr.frozen? ⟨p5, j, none⟩ = false := free_of hb5
        have R6 := Lib.hid (right_q e 6 26 6 rfl hRo.e rfl (by decide +kernel))
        have R11 := Lib.hid (right_q e 11 21 11 rfl hRo.e rfl (by decide +kernel))
        have R25 := Lib.hid (right_q e 25 7 25 rfl hRo.e rfl (by decide +kernel))
        have R2 := Lib.hid (right_q a 2 30 2 rfl hRo.a rfl (by decide +kernel))
        have R13 := Lib.hid (right_q a 13 19 13 rfl hRo.a rfl (by decide +kernel))
        have R22 := Lib.hid (right_q a 22 10 22 rfl hRo.a rfl (by decide +kernel))
        have z0 : (IntKind.u32.signed = true) = False := by simp [IntKind.signed]
        have z1 := big1_is e hRo.e
        have z2 := chs_is e ff g hRo.e hRo.f hRo.g (Go.bits .xor .u32 IntKind.u32.max (e : Int)) (by
          rw [show (IntKind.u32.max : Int) = ((4294967295 : Nat) : Int) from rfl, xor32 _ _ (by decide) hRo.e, Nat.xor_comm, ones_xor e hRo.e])
        have z3 := big0_is a hRo.a
        have z4 := maj_is a b c hRo.a hRo.b hRo.c
        obtain ⟨B1, hB1⟩ : ∃ B1, big1 e = B1 := ⟨_, rfl⟩
        obtain ⟨CH, hCH⟩ : ∃ CH, chs e ff g = CH := ⟨_, rfl⟩
        obtain ⟨B0, hB0⟩ : ∃ B0, big0 a = B0 := ⟨_, rfl⟩
        obtain ⟨MJ, hMJ⟩ : ∃ MJ, maj a b c = MJ := ⟨_, rfl⟩
        obtain ⟨ON, hON⟩ : ∃ ON, one ⟨a, b, c, d, e, ff, g, hh⟩ y x = ON := ⟨_, rfl⟩
        obtain ⟨TW, hTW⟩ : ∃ TW, two ⟨a, b, c, d, e, ff, g, hh⟩ = TW := ⟨_, rfl⟩
        have z5 : ((hh : Int) + B1 + CH + y + x) % 4294967296 = (ON : Int) := by
          rw [← hON]; unfold one; dsimp only; rw [hB1, hCH]; omega
        have z6 : ((B0 : Int) + MJ) % 4294967296 = (TW : Int) := by
          rw [← hTW]; unfold two; dsimp only; rw [hB0, hMJ]; omega
        have z7 : Sha.step ⟨a, b, c, d, e, ff, g, hh⟩ y x = ⟨(ON + TW) % 4294967296, a, b, c, (d + ON) % 4294967296, e, ff, g⟩ := by
          rw [← hON, ← hTW]; rfl
        rw [hB1] at z1
        rw [hCH] at z2
        rw [hB0] at z3
        rw [hMJ] at z4
        rw [z7] at hR1
        clear hB1 hCH hB0 hMJ hON hTW z7
        have HR1 := Lib.hid hR1
        have Hb5 := Lib.hid hb5
        have HRo := Lib.hid hRo
        clear hR1 hb5 hRo hR hx hy ht hlt
        go_upto_region 5 with fail
        go_quiet (fail)
        replace c0 : (wr.drewN nq).cell? ⟨p5, 0, none⟩ = some (.int .u32 (a : Int)) := c0
        replace c1 : (wr.drewN nq).cell? ⟨p5, 1, none⟩ = some (.int .u32 (b : Int)) := c1
        replace c2 : (wr.drewN nq).cell? ⟨p5, 2, none⟩ = some (.int .u32 (c : Int)) := c2
        replace c3 : (wr.drewN nq).cell? ⟨p5, 3, none⟩ = some (.int .u32 (d : Int)) := c3
        replace c4 : (wr.drewN nq).cell? ⟨p5, 4, none⟩ = some (.int .u32 (e : Int)) := c4
        replace c5 : (wr.drewN nq).cell? ⟨p5, 5, none⟩ = some (.int .u32 (ff : Int)) := c5
        replace c6 : (wr.drewN nq).cell? ⟨p5, 6, none⟩ = some (.int .u32 (g : Int)) := c6
        replace c7 : (wr.drewN nq).cell? ⟨p5, 7, none⟩ = some (.int .u32 (hh : Int)) := c7
        replace hck : (wr.drewN nq).cell? ⟨1, t, none⟩ = some (.int .u32 (y : Int)) := hck
        replace fr5 : ∀ j, (wr.drewN nq).frozen? ⟨p5, j, none⟩ = false := fr5
        replace KM := Lib.hid (KM.out.drewN nq)
        replace Hb5 : Hid ((wr.drewN nq).heap[p5]? = some (.cells (u32s (H8.list ⟨a, b, c, d, e, ff, g, hh⟩)) 41 (0, 0))) := Hb5
        generalize wr.drewN nq = W1 at *
        go_wp2
        go_quiet ((first | (go_at_call 26; first | exact Calls.quiet_of_same (R6.out _) | exact Calls.quiet_of_same (R11.out _) | exact Calls.quiet_of_same (R25.out _))))
        go_wp2
        replace c0 : (W1.drewN nq).cell? ⟨p5, 0, none⟩ = some (.int .u32 (a : Int)) := c0
        replace c1 : (W1.drewN nq).cell? ⟨p5, 1, none⟩ = some (.int .u32 (b : Int)) := c1
        replace c2 : (W1.drewN nq).cell? ⟨p5, 2, none⟩ = some (.int .u32 (c : Int)) := c2
        replace c3 : (W1.drewN nq).cell? ⟨p5, 3, none⟩ = some (.int .u32 (d : Int)) := c3
        replace c4 : (W1.drewN nq).cell? ⟨p5, 4, none⟩ = some (.int .u32 (e : Int)) := c4
        replace c5 : (W1.drewN nq).cell? ⟨p5, 5, none⟩ = some (.int .u32 (ff : Int)) := c5
        replace c6 : (W1.drewN nq).cell? ⟨p5, 6, none⟩ = some (.int .u32 (g : Int)) := c6
        replace c7 : (W1.drewN nq).cell? ⟨p5, 7, none⟩ = some (.int .u32 (hh : Int)) := c7
        replace hck : (W1.drewN nq).cell? ⟨1, t, none⟩ = some (.int .u32 (y : Int)) := hck
        replace fr5 : ∀ j, (W1.drewN nq).frozen? ⟨p5, j, none⟩ = false := fr5
        replace KM := Lib.hid (KM.out.drewN nq)
        replace Hb5 : Hid ((W1.drewN nq).heap[p5]? = some (.cells (u32s (H8.list ⟨a, b, c, d, e, ff, g, hh⟩)) 41 (0, 0))) := Hb5
        generalize W1.drewN nq = W2 at *
        go_quiet ((first | (go_at_call 26; first | exact Calls.quiet_of_same (R2.out _) | exact Calls.quiet_of_same (R13.out _) | exact Calls.quiet_of_same (R22.out _))))
        replace c0 : (W2.drewN nq).cell? ⟨p5, 0, none⟩ = some (.int .u32 (a : Int)) := c0
        replace c1 : (W2.drewN nq).cell? ⟨p5, 1, none⟩ = some (.int .u32 (b : Int)) := c1
        replace c2 : (W2.drewN nq).cell? ⟨p5, 2, none⟩ = some (.int .u32 (c : Int)) := c2
        replace c3 : (W2.drewN nq).cell? ⟨p5, 3, none⟩ = some (.int .u32 (d : Int)) := c3
        replace c4 : (W2.drewN nq).cell? ⟨p5, 4, none⟩ = some (.int .u32 (e : Int)) := c4
        replace c5 : (W2.drewN nq).cell? ⟨p5, 5, none⟩ = some (.int .u32 (ff : Int)) := c5
        replace c6 : (W2.drewN nq).cell? ⟨p5, 6, none⟩ = some (.int .u32 (g : Int)) := c6
        replace c7 : (W2.drewN nq).cell? ⟨p5, 7, none⟩ = some (.int .u32 (hh : Int)) := c7
        replace hck : (W2.drewN nq).cell? ⟨1, t, none⟩ = some (.int .u32 (y : Int)) := hck
        replace fr5 : ∀ j, (W2.drewN nq).frozen? ⟨p5, j, none⟩ = false := fr5
        replace KM := Lib.hid (KM.out.drewN nq)
        replace Hb5 : Hid ((W2.drewN nq).heap[p5]? = some (.cells (u32s (H8.list ⟨a, b, c, d, e, ff, g, hh⟩)) 41 (0, 0))) := Hb5
        generalize W2.drewN nq = W3 at *
        have hcp : (Builtin.copy_ #[25, 25] 3 #[.slice (some ⟨p5, 1, none⟩) 7 7, .slice (some ⟨p5, 0, none⟩) 7 8]).run Tryd.prog W3.drew = .ok (.int .i64 7) (W3.drew.setRow p5 (u32s [a, a, b, c, d, e, ff, g])) := by
          have hB : W3.drew.heap[p5]? = some (.cells (u32s (H8.list ⟨a, b, c, d, e, ff, g, hh⟩)) 41 (0, 0)) := Hb5.out
          have h := run_copy_row (P := Tryd.prog) W3.drew 25 25 3 40 p5 1 7 7 ⟨p5, 0, none⟩ 7 8 _ _ (u32s [a, b, c, d, e, ff, g]).toList Tryd.underlying25 (by kernel_rfl) hB rfl
            (fun j v hj => by
              have hjl : j < 7 := (List.getElem?_eq_some_iff.1 hj).1
              rw [addr_add0, cell_of hB, ← hj]
              match j, hjl with
              | 0, _ => rfl
              | 1, _ => rfl
              | 2, _ => rfl
              | 3, _ => rfl
              | 4, _ => rfl
              | 5, _ => rfl
              | 6, _ => rfl)
            (by show 1 + 7 ≤ 8; decide) (fun v hv => by
              simp only [u32s, List.mem_map] at hv
              obtain ⟨_, _, rfl⟩ := hv
              rfl)
          exact h
        have Hcp := Lib.hid hcp
        have Z7 : Hid (((d : Int) + ON) % 4294967296 = (((d + ON) % 4294967296 : Nat) : Int) ∧ ((ON : Int) + TW) % 4294967296 = (((ON + TW) % 4294967296 : Nat) : Int)) := ⟨by omega, by omega⟩
        have Z5 := Lib.hid z5
        have Z6 := Lib.hid z6
        clear z0 z1 z2 z3 z4 z5 z6 hix hck R6 R11 R25 R2 R13 R22 hcp c0 c1 c2 c3 c4 c5 c6 c7 fr5
        have hcp := Hcp.out
        go_wp2
        go_region
        clear hcp
        generalize hX : W3.drew.setRow p5 (u32s [a, a, b, c, d, e, ff, g]) = X
        have hFX : Fr (fun k => k = p5) W3 X := by rw [← hX]; exact fr_setRow ((Fr.refl _ W3).drew) p5 _ (.inl rfl)
        have hBX : X.heap[p5]? = some (.cells (u32s [a, a, b, c, d, e, ff, g]) 41 (0, 0)) := by rw [← hX]; exact block_setRow (w := W3.drew) Hb5.out
        have c4 : X.cell? ⟨p5, 4, none⟩ = some (.int .u32 (d : Int)) := (cell_of hBX 4).trans rfl
        have c0 : X.cell? ⟨p5, 0, none⟩ = some (.int .u32 (a : Int)) := (cell_of hBX 0).trans rfl
        have fr5 : ∀ j, X.frozen? ⟨p5, j, none⟩ = false := free_of hBX
        have z8 := Z7.out.1
        have z9 := Z7.out.2
        have hB4 := block_setCell hBX (.int .u32 (((d + ON) % 4294967296 : Nat) : Int)) (off := 4)
        have hB0 := block_setCell hB4 (.int .u32 (((ON + TW) % 4294967296 : Nat) : Int)) (off := 0)
        have hF0 := ((hFX.setCell ⟨p5, 4, none⟩ (.int .u32 (((d + ON) % 4294967296 : Nat) : Int)) (.inl rfl)).setCell ⟨p5, 0, none⟩ (.int .u32 (((ON + TW) % 4294967296 : Nat) : Int)) (.inl rfl))
        have HB0 := Lib.hid hB0
        have HF0 := Lib.hid hF0
        clear hX hFX hBX hB4 hB0 hF0
        go_wp2
        go_roundw
        case rel =>
          have e1 : ((d : Int) + ((hh : Int) + B1 + CH + y + x)) % 4294967296 = (((d + ON) % 4294967296 : Nat) : Int) := by have := Z5.out; omega
          have e2 : ((hh : Int) + B1 + CH + y + x + ((B0 : Int) + MJ)) % 4294967296 = (((ON + TW) % 4294967296 : Nat) : Int) := by have := Z5.out; have := Z6.out; omega
          refine ⟨t + 1, by omega, by go_num, ?_⟩
          first | rw [e1, e2] | skip
          have hF := HF0.out
          have hB := HB0.out
          refine ⟨KM.out.fr.trans hF (fun k hk => .inr (by have := Hl2.out; omega)), hF.keep KM.out.b2 (fun e => n25 e), hF.keep KM.out.b4 (fun e => n45 e), ?_⟩
          rw [HR1.out]
          exact hB
        case measure => simp [intOf]; omega
      · obtain rfl : t = 64 := by omega
        clear ht hlt
        go_wp2
        go_meet
        exact KM
  case rest =>
    have KM := hcut
    clear HM hcut
    obtain ⟨R, hR⟩ : ∃ R, rnd W 64 V = R := ⟨_, rfl⟩
    obtain ⟨VL, hVL⟩ : ∃ VL, V.list = VL := ⟨_, rfl⟩
    obtain ⟨RL, hRL⟩ : ∃ RL, R.list = RL := ⟨_, rfl⟩
    obtain ⟨PL, hPL⟩ : ∃ PL, (plus V R).list = PL := ⟨_, rfl⟩
    have l1 : VL.length = 8 := by rw [← hVL]; rfl
    have l2 : RL.length = 8 := by rw [← hRL]; rfl
    have l3 : PL.length = 8 := by rw [← hPL]; rfl
    have hsum : ∀ i, i < 8 → PL.getD i 0 = (VL.getD i 0 + RL.getD i 0) % 4294967296 := fun i hi => by
      rw [← hPL, ← hVL, ← hRL]
      match i, hi with
      | 0, _ => rfl
      | 1, _ => rfl
      | 2, _ => rfl
      | 3, _ => rfl
      | 4, _ => rfl
      | 5, _ => rfl
      | 6, _ => rfl
      | 7, _ => rfl
    have hb2 := KM.out.b2
    have hb5 := KM.out.b5
    rw [hVL] at hb2
    rw [hR, hRL] at hb5
    have HP : Hid ((plus V (rnd W 64 V)).list = PL) := by rw [hR]; exact hPL
    have B2 := Lib.hid hb2
    have B4 := Lib.hid KM.out.b4
    have B5 := Lib.hid hb5
    have F0 := Lib.hid KM.out.fr
    have HS := Lib.hid hsum
    have L1 := Lib.hid l1
    have L2 := Lib.hid l2
    have L3 := Lib.hid l3
    clear KM hb2 hb5 hsum hPL hRL hVL hR HVl HVo Hsp HT l1 l2 l3
    go_wp2
    go_loopw [89] (fun v89 wr => ∃ i : Nat, i ≤ 8 ∧ v89 = .int .i64 (i : Int) ∧ Hid (Fr (fun _ => False) w wr) ∧ Hid (wr.heap[p2]? = some (.cells (u32s (PL.take i ++ VL.drop i)) 41 (0, 0))) ∧
      Hid (wr.heap[p4]? = some (.cells (u32s [0, 0, 0, 0, 0, 0, 0, 0]) 41 (0, 0))) ∧ Hid (wr.heap[p5]? = some (.cells (u32s RL) 41 (0, 0)))) (fun v89 _ => 8 - (intOf v89).toNat)
    case atStart => exact ⟨0, by omega, rfl, F0, by simpa using B2, B4, B5⟩
    case round =>
      obtain ⟨i, hi, rfl, KF, K2, K4, K5⟩ := hrel
      clear B2 B4 B5 F0
      by_cases hlt : i < 8
      · have hx : (PL.take i ++ VL.drop i).getD i 0 = VL.getD i 0 := by
          have := L3.out
          simp [List.getD, List.getElem?_append_right, Nat.min_eq_left (show i ≤ PL.length by omega)]
        have hs := HS.out i hlt
        have hll : (PL.take i ++ VL.drop i).length = 8 := by have := L1.out; have := L3.out; simp; omega
        have c2 : wr.cell? ⟨p2, i, none⟩ = some (.int .u32 (VL.getD i 0 : Nat)) := (cell_of K2.out i).trans ((u32s_get _ _ (by omega)).trans (by rw [hx]))
        have c5 : wr.cell? ⟨p5, i, none⟩ = some (.int .u32 (RL.getD i 0 : Nat)) := (cell_of K5.out i).trans (u32s_get _ _ (by have := L2.out; omega))
        have f2 := free_of K2.out i
        have hset : (PL.take i ++ VL.drop i).set i (PL.getD i 0) = PL.take (i + 1) ++ VL.drop (i + 1) := by
          have l1 := L1.out
          have l3 := L3.out
          rw [List.set_append_right _ _ (by simp; omega)]
          have e1 : i - (PL.take i).length = 0 := by simp; omega
          rw [e1, List.drop_eq_getElem_cons (show i < VL.length by omega), List.set_cons_zero]
          have e2 : PL.take (i + 1) = PL.take i ++ [PL.getD i 0] := by
            rw [List.take_add_one]
            simp [List.getD, show i < PL.length by omega]
          rw [e2, List.append_assoc]
          rfl
        have hb := block_setCell K2.out (.int .u32 ((PL.getD i 0 : Nat) : Int)) (off := i)
        rw [u32s_set, hset] at hb
        obtain ⟨vx, hvx⟩ : ∃ vx, VL.getD i 0 = vx := ⟨_, rfl⟩
        obtain ⟨rx, hrx⟩ : ∃ rx, RL.getD i 0 = rx := ⟨_, rfl⟩
        obtain ⟨px, hpx⟩ : ∃ px, PL.getD i 0 = px := ⟨_, rfl⟩
        rw [hvx] at c2
        rw [hrx] at c5
        rw [hpx] at hb
        rw [hvx, hrx, hpx] at hs
        have hs2 : ((vx : Int) + (rx : Int)) % 4294967296 = (px : Int) := by omega
        have hfr := (Fr.refl (fun k => k = p2) wr).setCell ⟨p2, i, none⟩ (.int .u32 (px : Int)) (.inl rfl)
        have MF := Lib.hid (KF.out.trans hfr (fun k hk => .inr (by have := Hl2.out; omega)))
        have M2 := Lib.hid hb
        have M4 := Lib.hid (hfr.keep K4.out (fun e => n24 e.symm))
        have M5 := Lib.hid (hfr.keep K5.out (fun e => n25 e.symm))
        have hlI : (i : Int) < 8 := by omega
        have hi0 : (0 : Int) ≤ (i : Int) := by omega
        have Hs := Lib.hid hs2
        clear hx hs hll hset hb hvx hrx hpx hs2 hfr
        go_upto_region 15 with fail
        go_region
        rw [Hs.out]
        go_wp2
        go_roundw
        case rel => exact ⟨i + 1, by omega, by go_num, MF.out.drew, M2, M4, M5⟩
        case measure => simp [intOf]; omega
      · obtain rfl : i = 8 := by omega
        have hb2 := K2.out
        rw [show PL.take 8 ++ VL.drop 8 = PL by rw [List.take_of_length_le (by rw [L3.out]; decide), List.drop_of_length_le (by rw [L1.out]; decide), List.append_nil]] at hb2
        obtain ⟨A, hA⟩ : ∃ A, u32s PL = A := ⟨_, rfl⟩
        have hsz : A.size = 8 := by rw [← hA, u32s_size, L3.out]
        have hall : ∀ v ∈ A.toList, v.oneCell' = true := fun v hv => by
          rw [← hA] at hv
          simp only [u32s, List.mem_map] at hv
          obtain ⟨_, _, rfl⟩ := hv
          rfl
        rw [hA] at hb2
        have r1 : (loadVar 41 ⟨p2, 0, none⟩).run Tryd.prog wr = .ok (.agg A) wr :=
          run_loadVar_row _ _ _ _ _ _ _ hb2 Tryd.underlying41 rfl (by rw [hsz]; kernel_rfl)
        have r2 : (storeVar 41 ⟨p4, 0, none⟩ (.agg A)).run Tryd.prog wr = .ok () (wr.setRow p4 A) :=
          run_storeVar_row _ _ _ _ _ _ K4.out (by rw [hsz]; kernel_rfl) (by rw [hsz]; rfl) (by rw [Array.all_eq_true_iff_forall_mem]; intro v hv; exact hall v (by simpa using hv))
        have r3 : (loadVar 41 ⟨p4, 0, none⟩).run Tryd.prog (wr.setRow p4 A) = .ok (.agg A) (wr.setRow p4 A) :=
          run_loadVar_row _ _ _ _ _ _ _ (block_setRow K4.out) Tryd.underlying41 rfl (by rw [hsz]; kernel_rfl)
        have MF := Lib.hid (fr_setRow KF.out p4 A (.inr Hl2.out.2.1))
        have R1 := Lib.hid r1
        have R2 := Lib.hid r2
        have R3 := Lib.hid r3
        have HA := Lib.hid hA
        clear hA hlt hi hall hsz hb2 r1 r2 r3
        go_wp2_with (first | refine wpList_load_arr rfl 41 _ rfl rfl R1.out ?_ | refine wpList_store_arr rfl 41 _ _ rfl rfl rfl R2.out ?_)
        refine bodyPost_ret (results_cell Tryd.results18 rfl R3.out) rfl ?_
        exact ⟨by rw [HP.out, HA.out], MF.out⟩
end Go.Proofs.YtmcenocmilhekaaDoor
