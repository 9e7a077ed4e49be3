/- RcEncodes, RcBack, RcDecodes: the law's speaks, its parts. -/
import Derived.Test.YtpddocehjljofaaEnc4
import Derived.Test.YtpddocehjljofaaDec4
import Derived.Test.YtpddocehjljofaaRcS
import Derived.ChangeKeysEq
namespace Go.Proofs.Ytpddocehjljofaa
open Go.RowKit Go.My

theorem not_foot {w : World} {p k : Nat} {v : Value} {ops : List Rc.Op} (h : EncO w p v ops) {cs : Array Value} {t : TypeId} {fr : Nat × Nat} (hk : w.heap[k]? = some (.cells cs t fr)) (h1 : t ≠ 115) (h2 : t ≠ 5) : ¬ encFoot p v k := by
  rintro (rfl | he)
  · exact ne_of_ty hk h.at_.blk h1 rfl
  · obtain ⟨cur, hc⟩ := own_ty h.at_.own he
    exact ne_of_ty hk hc h2 rfl
theorem EncO.alloc {w : World} {p : Nat} {v : Value} {ops : List Rc.Op} (h : EncO w p v ops) (o : Obj) : EncO (w.alloc o) p v ops :=
  h.keep (S := fun _ => False) ((Fr.refl _ _).alloc o) (fun _ _ h => h)

set_option maxHeartbeats 2000000 in
set_option maxRecDepth 100000 in
theorem part_is (a b c d e : Nat) (hx : (⟨a, b, c, d, e⟩ : Rc.Stp).Ok) (w : World) :
    Calls Try.prog 17 #[.agg #[.int .u8 (a : Int), .int .u8 (b : Int), .int .u32 (c : Int), .int .u8 (d : Int), .int .u16 (e : Int)]] w fun r w' =>
      r = .returned (.tuple #[.int .u32 ((⟨a, b, c, d, e⟩ : Rc.Stp).pStart : Int), .int .u32 ((⟨a, b, c, d, e⟩ : Rc.Stp).pSize : Int), .int .u32 ((⟨a, b, c, d, e⟩ : Rc.Stp).pTotal : Int)]) ∧ ∃ o n, w' = (w.alloc o).drewN n := by
  have hpt := (⟨a, b, c, d, e⟩ : Rc.Stp).pt hx
  have he := hx.total
  have hc := hx.v
  dsimp only at he hc
  have hs : ((c : Int) % (1 + (e : Int))) = (((⟨a, b, c, d, e⟩ : Rc.Stp).pStart : Nat) : Int) := by unfold Rc.Stp.pStart; simp
  have hsl : (⟨a, b, c, d, e⟩ : Rc.Stp).pStart < 1 + e := Nat.mod_lt _ (by omega)
  obtain ⟨S, hS⟩ : ∃ S, (⟨a, b, c, d, e⟩ : Rc.Stp).pStart = S := ⟨_, rfl⟩
  rw [hS] at hs hsl
  have hz : 1 + ((c : Int) / 7 % (1 + (e : Int) - (S : Int))) = (((⟨a, b, c, d, e⟩ : Rc.Stp).pSize : Nat) : Int) := by
    unfold Rc.Stp.pSize
    rw [hS]
    dsimp only
    rw [show (1 + (e : Int) - (S : Int)) = ((1 + e - S : Nat) : Int) by omega]
    simp
  obtain ⟨Z, hZ⟩ : ∃ S, (⟨a, b, c, d, e⟩ : Rc.Stp).pSize = S := ⟨_, rfl⟩
  have hT : (((⟨a, b, c, d, e⟩ : Rc.Stp).pTotal : Nat) : Int) = 1 + (e : Int) := by unfold Rc.Stp.pTotal; simp
  rw [hS, hZ, hT]
  rw [hZ] at hz
  have hzl : (Z : Int) ≤ 65536 := by have := hpt.in_; rw [hZ, hS] at this; unfold Rc.Stp.pTotal at this; dsimp only at this; omega
  have he0 : (e : Int) < 65536 := by omega
  have hc0 : (c : Int) < 4294967296 := by omega
  have hsl0 : (S : Int) < 1 + (e : Int) := by omega
  obtain ⟨R, hR⟩ : ∃ R : Int, (c : Int) / 7 % (1 + (e : Int) - (S : Int)) = R := ⟨_, rfl⟩
  have hR1 : R = (Z : Int) - 1 := by omega
  rw [hR1] at hR
  have hZ1 : (1 : Int) ≤ (Z : Int) := by have := hpt.one; rw [hZ] at this; omega
  have hw1 : IntKind.u32.wrap (1 + (e : Int) - (S : Int)) = 1 + (e : Int) - (S : Int) := IntWalk.u32_in _ (by omega)
  have hw2 : IntKind.u32.wrap (1 + ((Z : Int) - 1)) = (Z : Int) := by rw [show (1 + ((Z : Int) - 1)) = (Z : Int) by omega]; exact IntWalk.u32_in _ (by omega)
  have hne : (1 + (e : Int) - (S : Int) == 0) = false := by simp; omega
  clear hpt hx he hc hsl hS hZ hz hT
  go_enter Try.func17, Try.ntmps17
  go_wp2
  go_quiet (fail)
  go_wp2
  go_ret3
  exact ⟨by rw [← hs]; rfl, _, _, rfl⟩

theorem sp_ops : Rc.AllFine [Rc.Op.bit 1024 1] := Rc.AllFine.cons ⟨Rc.PrOk.start, by decide⟩ Rc.AllFine.nil
theorem sp_empty : (ByteArray.mk (Rc.bytes []).toArray) = ⟨#[0, 0, 0, 0, 0]⟩ := by rw [show Rc.bytes [] = [0, 0, 0, 0, 0] by decide +kernel]
theorem sp_bit : ((Rc.D.read (Rc.bytes [Rc.Op.bit 1024 1])).bit 1024).1 = 1 ∧ ((Rc.D.read (Rc.bytes [Rc.Op.bit 1024 1])).bit 1024).2.done = true ∧ ((Rc.D.read (Rc.bytes [Rc.Op.bit 1024 1])).bit 1024).2.bad = false := by decide +kernel
theorem sp_len : (Rc.bytes [Rc.Op.bit 1024 1]).length ≤ 1000000000 := by
  rw [show (Rc.bytes [Rc.Op.bit 1024 1]).length = 5 by decide +kernel]; decide
theorem sp_learn : Rc.learn 1024 1 = 992 := by decide

set_option maxHeartbeats 2000000 in
set_option maxRecDepth 100000 in
theorem speaks03 (w : World) : Calls Try.prog 12 #[] w fun r w' => r = .returned (.bool true) ∧ Fr (fun _ => False) w w' := by
  go_enter Try.func12, Try.ntmps12
  go_upto_region 2 with (go_at_call 13; refine (enc_new _).mono ?_; rintro r w1 ⟨rfl, h1, h2⟩; have HE := Lib.hid h1; have HF := Lib.hid h2; clear h1 h2)
  go_upto_region 3 with (go_at_call 22; refine (end_ops _ _ _ _ HE.out (by decide)).mono ?_; rintro r w2 ⟨rfl, h2⟩; have HE2 := Lib.hid (HE.out.keep h2 (fun _ _ h => h)); have HF2 := Lib.hid (HF.out.trans h2 (fun _ h => .inl h)); clear h2)
  clear HE HF
  rw [sp_empty]
  go_upto_region 4 with fail
  have hp : ((w2.alloc (.cells #[.int .u16 1024] 31)).alloc (.cells #[.int .u16 1024] 31)).heap[w2.heap.size]? = some (.cells #[.int .u16 1024] 31 (0, 0)) := block_alloc (heap_alloc_new w2 _)
  have hq : ((w2.alloc (.cells #[.int .u16 1024] 31)).alloc (.cells #[.int .u16 1024] 31)).heap[w2.heap.size + 1]? = some (.cells #[.int .u16 1024] 31 (0, 0)) := by
    have h := heap_alloc_new (w2.alloc (.cells #[.int .u16 1024] 31)) (.cells #[.int .u16 1024] 31)
    simpa using h
  have HE3 := Lib.hid ((HE2.out.alloc (.cells #[.int .u16 1024] 31)).alloc (.cells #[.int .u16 1024] 31))
  have HF3 : Hid (Fr (fun _ => False) w ((w2.alloc (.cells #[.int .u16 1024] 31)).alloc (.cells #[.int .u16 1024] 31))) := (HF2.out.alloc _).alloc _
  have hle : w.heap.size ≤ w2.heap.size := HF2.out.size
  generalize hW3 : (w2.alloc (.cells #[.int .u16 1024] 31)).alloc (.cells #[.int .u16 1024] 31) = W3 at *
  obtain ⟨pb, hpb⟩ : ∃ pb, w2.heap.size = pb := ⟨_, rfl⟩
  rw [hpb] at hp hq hle ⊢
  have Hp := Lib.hid hp
  have Hq := Lib.hid hq
  have Hle := Lib.hid hle
  have hbit := bit_ops w.heap.size _ [] pb 0 1024 1 W3 HE3.out (by decide) Rc.PrOk.start (by decide) ((cell_of hp 0).trans rfl) (free_of hp 0) (not_foot HE3.out hp (by decide) (by decide))
  have Hbit := Lib.hid hbit
  clear hp hq hle hpb hW3 HE2 HF2 hbit
  go_upto_region 5 with (go_at_call 20; refine Hbit.out.mono ?_; rintro r w4 ⟨rfl, v4, h1, h2⟩; have HE4 := Lib.hid h1; have HS4 := Lib.hid h2; clear h1 h2)
  have hp4 := HS4.out.keep (block_setCell Hp.out (off := 0) (.int .u16 (Rc.learn 1024 1 : Nat))) (not_foot HE3.out Hp.out (by decide) (by decide))
  have hq4 := HS4.out.keep (block_setCell_other Hq.out (b := pb) (off := 0) (by omega) (.int .u16 (Rc.learn 1024 1 : Nat))) (not_foot HE3.out Hq.out (by decide) (by decide))
  rw [sp_learn] at hp4
  have hp4' : w4.heap[pb]? = some (.cells #[.int .u16 992] 31 (0, 0)) := by simpa using hp4
  have HF4 : Hid (Fr (fun _ => False) w w4) := by
    refine (HF3.out.setCell ⟨pb, 0, none⟩ (.int .u16 (Rc.learn 1024 1 : Nat)) (.inr Hle.out)).trans HS4.out.fr ?_
    rintro k (rfl | hk)
    · exact .inr (Nat.le_refl _)
    · cases hk
  have Hp4 := Lib.hid hp4'
  have Hq4 := Lib.hid hq4
  clear hp4 hq4 hp4' HE3 HF3 Hp Hq Hbit HS4
  go_upto_region 6 with (first | (go_at_call 22; refine (end_ops _ _ _ _ HE4.out (by decide)).mono ?_; rintro r w5 ⟨rfl, h2⟩; have HF5 := Lib.hid (HF4.out.trans h2 (fun _ h => .inl h)); have Hp5 := Lib.hid (h2.keep Hp4.out (fun h => h)); have Hq5 := Lib.hid (h2.keep Hq4.out (fun h => h)); clear h2) | (go_at_call 24; refine (dec_new _ _ sp_len).mono ?_; rintro r w6 ⟨rfl, h1, hg, h2⟩; have HD6 := Lib.hid h1; have HG6 := Lib.hid hg; have HF6 := Lib.hid (HF5.out.trans h2 (fun _ h => .inl h)); have Hp6 := Lib.hid (h2.keep Hp5.out (fun h => h)); have Hq6 := Lib.hid (h2.keep Hq5.out (fun h => h)); have Hl6 := Lib.hid HF5.out.size; clear h1 h2 hg))
  obtain ⟨D, hD⟩ : ∃ D, Rc.D.read (Rc.bytes [Rc.Op.bit 1024 1]) = D := ⟨_, rfl⟩
  have hsb := sp_bit
  rw [hD] at HD6 HG6 hsb
  clear hD
  obtain ⟨b1, b2, b3⟩ := hsb
  have hpd : pb ≠ w5.heap.size := ne_of_ty Hp6.out HD6.out.blk (by decide)
  have hqd : pb + 1 ≠ w5.heap.size := ne_of_ty Hq6.out HD6.out.blk (by decide)
  have hdb := dec_bit w5.heap.size D (pb + 1) 0 1024 w6 HD6.out HG6.out Rc.PrOk.start ((cell_of Hq6.out 0).trans rfl) (free_of Hq6.out 0) hqd
  rw [b1, sp_learn] at hdb
  have hfin : ∀ w7, Fr (one w5.heap.size) (w6.setCell ⟨pb + 1, 0, none⟩ (.int .u16 (992 : Nat))) w7 → w7.cell? ⟨pb, 0, none⟩ = some (.int .u16 992) ∧ w7.cell? ⟨pb + 1, 0, none⟩ = some (.int .u16 992) ∧ Fr (fun _ => False) w w7 := by
    intro w7 h
    have hp7 := h.keep (block_setCell_other Hp6.out (b := pb + 1) (off := 0) (by omega) (.int .u16 (992 : Nat))) hpd
    have hq7 := h.keep (block_setCell Hq6.out (off := 0) (.int .u16 (992 : Nat))) hqd
    exact ⟨(cell_of hp7 0).trans rfl, (cell_of hq7 0).trans rfl, (HF6.out.setCell ⟨pb + 1, 0, none⟩ (.int .u16 (992 : Nat)) (.inr (by have := Hle.out; dsimp only; omega))).trans h (fun k hk => .inr (by rw [show k = w5.heap.size from hk]; exact Hl6.out))⟩
  have Hdb := Lib.hid hdb
  have Hfin := Lib.hid hfin
  have B1 := Lib.hid b1
  have B2 := Lib.hid b2
  have B3 := Lib.hid b3
  clear hdb hfin b1 b2 b3 hpd hqd
  go_wp2_with (first | (go_at_call 28; refine Hdb.out.mono ?_; rintro r w7 ⟨rfl, h1, h2⟩; have HD7 := Lib.hid h1; obtain ⟨e1, e2, e3⟩ := Hfin.out w7 h2; have E3 := Lib.hid e3; clear h1 h2 e3) | (go_at_call 30; refine (dec_done _ _ _ HD7.out).mono ?_; rintro r w8 ⟨rfl, hw⟩; rw [← hw, B2.out]; clear hw) | (go_at_call 29; refine (dec_bad _ _ _ HD7.out).mono ?_; rintro r w8 ⟨rfl, hw⟩; rw [← hw, B3.out]; clear hw))
  go_ret
  exact ⟨rfl, E3.out⟩

theorem part4 (a b c d : Value) (w : World) : (part 31 #[a, b, c, d] (0 * 1)).run Try.prog w = .ok a w ∧ (part 31 #[a, b, c, d] (1 * 1)).run Try.prog w = .ok b w ∧ (part 31 #[a, b, c, d] (2 * 1)).run Try.prog w = .ok c w ∧ (part 31 #[a, b, c, d] (3 * 1)).run Try.prog w = .ok d w :=
  ⟨by kernel_rfl, by kernel_rfl, by kernel_rfl, by kernel_rfl⟩
theorem cells31 : Try.prog.cellsOf 31 = 1 := by kernel_rfl
theorem info31 : (Try.prog.info? 31).map (fun i => (i.zero, i.size, i.bytes)) = some (some (.int .u16 0), 1, 2) := by kernel_rfl
/-- An array beside itself. -/
theorem eq4 (a b c d : Int) (w : World) : (Op.equalIn 10000 32 (.agg #[.int .u16 a, .int .u16 b, .int .u16 c, .int .u16 d]) (.agg #[.int .u16 a, .int .u16 b, .int .u16 c, .int .u16 d])).run Try.prog w = .ok true w := by
  obtain ⟨i0, hi, _, _, _⟩ := info_parts info31
  rw [run_equalIn_array w 9999 _ _ Try.underlying32 hi, cells31]
  obtain ⟨h0, h1, h2, h3⟩ := part4 (.int .u16 a) (.int .u16 b) (.int .u16 c) (.int .u16 d) w
  show (Op.eqItems 9999 31 1 _ _ [0, 1, 2, 3]).run Try.prog w = _
  simp only [Op.eqItems, Sem.run_bind, h0, h1, h2, h3, Result.andThen_ok, run_equalIn_int w 9998 31 .u16 .u16 _ _ Try.underlying31, beq_self_eq_true, Bool.not_true, Bool.false_eq_true, if_false, Sem.run_pure]
end Go.Proofs.Ytpddocehjljofaa
