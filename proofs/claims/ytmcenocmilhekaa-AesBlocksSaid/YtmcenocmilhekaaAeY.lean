/- Walks of layer 25 (aes): a block enciphered. -/
import Derived.Test.YtmcenocmilhekaaAeX
import Derived.Test.YtmcenocmilhekaaAeC
import Derived.StillTailTactics
namespace Go.Proofs.Ytmcenocmilhekaa
set_option linter.unusedVariables false
open Go.RowKit Go.My Go.Aes

theorem wpStill_load_arr {P : Program} {w : World} {ops : Array Oper} {rest : List Oper} {o : Oper} {a : Act} {Q : Act → Prop} (hgd : o.guard = none) (t : TypeId) (x : Operand) (ho : o.op = .load t x)
    {ad : Addr} {v : Value} (hx : a.eval x = .pointer (some ad)) (hl : (loadVar t ad).run P w = .ok v w) (h : wpStill P ops w Q rest (a.put o.dst v)) : wpStill P ops w Q (o :: rest) a := by
  refine wpStill_step (fun K hK => ?_)
  have hw : Region.wanted o (yielded ops a.tmps) = true := by simp [Region.wanted, hgd]
  rw [if_pos hw]
  unfold Oper.still execOp
  simp only [ho, hx, Instr.loadAt, Instr.sureAddr, Sem.run_bind, Sem.run_pure, Result.andThen_ok, hl]
  exact ⟨rfl, hK _ h⟩
theorem ld16 {w : World} {p : Nat} {l : List Nat} (h : w.heap[p]? = some (.cells (u8s l) 22 (0, 0))) (hl : l.length = 16) : (loadVar 22 ⟨p, 0, none⟩).run Try.prog w = .ok (.agg (u8s l)) w := by
  have hsz : (u8s l).size = 16 := by rw [u8s_size, hl]
  exact run_loadVar_row _ _ _ _ _ _ _ h Try.underlying22 rfl (by rw [hsz]; kernel_rfl)
theorem st16 {w : World} {p : Nat} {l : List Nat} {old : List Nat} (h : w.heap[p]? = some (.cells (u8s old) 22 (0, 0))) (ho : old.length = 16) (hl : l.length = 16) : (storeVar 22 ⟨p, 0, none⟩ (.agg (u8s l))).run Try.prog w = .ok () (w.setRow p (u8s l)) := by
  have hsz : (u8s l).size = 16 := by rw [u8s_size, hl]
  have hall := u8s_one l
  exact run_storeVar_row _ _ _ _ _ _ h (by rw [hsz]; kernel_rfl) (by rw [u8s_size, u8s_size, ho, hl]) (by rw [Array.all_eq_true_iff_forall_mem]; intro v hv; exact hall v (by simpa using hv))
/-- A round's key out of a cipher's block. -/
theorem ldKey {w : World} {c : Nat} {W : List Nat} (hC : Cip w c W) (hW : W.length = 240) (r : Nat) (hr : r < 15) : (loadVar 22 ⟨c, 256 + r * 16, none⟩).run Try.prog w = .ok (.agg (u8s (keyL W r))) w := by
  have hlen : ((keyL W r).map fun x : Nat => Value.int .u8 (x : Int)).length = 16 := by rw [List.length_map, keyL_length]
  refine run_loadVar_mid (P := Try.prog) w c (256 + r * 16) 22 ((keyL W r).map fun x : Nat => Value.int .u8 (x : Int)) _ (fun j v hv => ?_) Try.underlying22 rfl (by rw [hlen]; kernel_rfl)
  have hj : j < 16 := by
    have := (List.getElem?_eq_some_iff.1 hv).1
    rwa [hlen] at this
  have e := hC.cell (16 * r + j) (by omega) (W.getD (16 * r + j) 0) rfl
  rw [show 256 + r * 16 + j = 256 + (16 * r + j) by omega, e, ← hv, ← keyL_get W r j hj]
  simp [List.getD, keyL_length, hj]

set_option maxHeartbeats 4000000 in
set_option maxRecDepth 100000 in
theorem block_is (W b : List Nat) (hb : b.length = 16) (hbl : ∀ i, b.getD i 0 < 256) (hW : W.length = 240) (hWl : ∀ i, W.getD i 0 < 256) (c : Nat) (w : World) (hC : Cip w c W) :
    Calls Try.prog 9 #[.pointer (some ⟨c, 0, none⟩), .agg (u8s b)] w fun e w' => e = .returned (.agg (u8s (blockL W b))) ∧ Fr (fun _ => False) w w' := by
  have Hb := Lib.hid hb
  have Hbl := Lib.hid hbl
  have HW := Lib.hid hW
  have HWl := Lib.hid hWl
  have HC := Lib.hid hC
  have Hcl := Lib.hid hC.lt
  clear hb hbl hW hWl hC
  go_enter Try.func9, Try.ntmps9
  go_upto_region 3 with fail
  show Code.wp _ _ _ _ ((w.alloc (.cells (u8s b) 22)).alloc (.cells (u8s (List.replicate 16 0)) 22))
  have hst : ∃ V p3 p4, (w.alloc (.cells (u8s b) 22)).alloc (.cells (u8s (List.replicate 16 0)) 22) = V ∧ w.heap.size = p3 ∧ w.heap.size + 1 = p4 ∧
      Fr (fun _ => False) w V ∧ V.heap[p3]? = some (.cells (u8s b) 22 (0, 0)) ∧ V.heap[p4]? = some (.cells (u8s (List.replicate 16 0)) 22 (0, 0)) := by
    refine ⟨_, _, _, rfl, rfl, rfl, ((Fr.refl _ w).alloc _).alloc _, block_alloc (heap_alloc_new w _), ?_⟩
    have h := heap_alloc_new (w.alloc (.cells (u8s b) 22)) (.cells (u8s (List.replicate 16 0)) 22)
    rwa [show (w.alloc (.cells (u8s b) 22)).heap.size = w.heap.size + 1 by simp] at h
  obtain ⟨V, p3, p4, hV, q3, q4, hF, h3, h4⟩ := hst
  rw [hV, q4, q3]
  have n34 : p3 ≠ p4 := by omega
  have HL : Hid (w.heap.size ≤ p3 ∧ w.heap.size ≤ p4) := by refine ⟨?_, ?_⟩ <;> omega
  have F0 := Lib.hid hF
  have B3 := Lib.hid h3
  have B4 := Lib.hid h4
  clear hV q3 q4 hF h3 h4
  have R1 := Lib.hid (ld16 (w := V.drew) B3.out Hb.out)
  have K1 := Lib.hid (ldKey (w := V.drew) (HC.out.keep (F0.out.drew) (fun x => x)) HW.out 0 (by decide))
  have HT := Lib.hid (fun U => aturned_is b (keyL W 0) Hb.out (keyL_length W 0) Hbl.out (keyL_lt W HWl.out 0) U)
  refine wp_region_still_tail 6 (by kernel_rfl) (by kernel_rfl) ?_
  simp only [List.take_succ_cons, List.take_zero, List.drop_succ_cons, List.drop_zero]
  repeat (first | refine wpStill_load_arr rfl 22 _ rfl rfl R1.out ?_ | refine wpStill_load_arr rfl 22 _ rfl rfl K1.out ?_ | still_step)
  try refine wpStill_nil ?_
  show wpList _ _ _ _ _ V.drew
  go_upto_block 0 with (first
    | (go_at_call 17; refine (HT.out _).mono ?_; rintro e w2 ⟨rfl, h⟩; have F1 := Lib.hid (F0.out.drew.trans h (fun _ h => .inl h)); have C3 := Lib.hid ((h.keep (show V.drew.heap[p3]? = _ from B3.out) (fun x => x))); have C4 := Lib.hid ((h.keep (show V.drew.heap[p4]? = _ from B4.out) (fun x => x))); have S1 := Lib.hid (st16 C3.out Hb.out (xorL_length b (keyL W 0) 16)); clear h)
    | refine wpList_store_arr rfl 22 _ _ rfl rfl rfl S1.out ?_)
  have hb3 := block_setRow (cs := u8s (xorL b (keyL W 0) 16)) C3.out
  have hb4 := block_setRow_other (b := p3) (cs := u8s (xorL b (keyL W 0) 16)) C4.out (fun e => n34 e.symm)
  have hfr := fr_setRow F1.out p3 (u8s (xorL b (keyL W 0) 16)) (.inr HL.out.1)
  generalize w2.setRow p3 (u8s (xorL b (keyL W 0) 16)) = U at *
  have hx0 : xorL b (keyL W 0) 16 = rndN W b 0 := rfl
  rw [hx0] at hb3
  have U3 := Lib.hid hb3
  have U4 := Lib.hid hb4
  have UF := Lib.hid hfr
  clear hb3 hb4 hfr hx0 S1 C3 C4 F1 HT K1 R1 B3 B4 F0
  go_wp2
  go_loopw [5] (fun v5 wr => ∃ r n : Nat, Hid (n = r + 1) ∧ r ≤ 14 ∧ v5 = .int .i64 (n : Int) ∧ Hid (Fr (fun _ => False) w wr) ∧ Hid (wr.heap[p3]? = some (.cells (u8s (rndN W b r)) 22 (0, 0))) ∧ Hid (wr.heap[p4]? = some (.cells (u8s (List.replicate 16 0)) 22 (0, 0)))) (fun v5 _ => 15 - (intOf v5).toNat)
  case atStart => exact ⟨0, 1, rfl, by omega, rfl, UF, U3, U4⟩
  case round =>
    obtain ⟨r, n, hn, hr, rfl, KF, K3, K4⟩ := hrel
    clear UF U3 U4
    by_cases hlt : r < 14
    · have hnI : (n : Int) ≤ 14 := by have := hn.out; omega
      have hn0 : (0 : Int) ≤ (n : Int) := by omega
      have hn15 : (n : Int) < 15 := by omega
      obtain ⟨s, hs⟩ : ∃ s, rndN W b r = s := ⟨_, rfl⟩
      have hsn : s.length = 16 := by rw [← hs]; exact rndN_length W b r
      have hsl : ∀ i, s.getD i 0 < 256 := by rw [← hs]; exact rndN_lt W b HWl.out Hbl.out r
      have hnx : rndN W b (r + 1) = xorL (preR s n) (keyL W n) 16 := by rw [← hs, hn.out]; rfl
      rw [hs] at K3
      have Hsn := Lib.hid hsn
      have Hsl := Lib.hid hsl
      have Hnx := Lib.hid hnx
      have R1 := Lib.hid (ld16 K3.out hsn)
      have HS := Lib.hid (shuffle_is s hsn hsl c wr (HC.out.boxes.keep KF.out (fun x => x)))
      clear hs hsn hsl hnx
      go_upto_region 8 with (first
        | refine wpList_load_arr rfl 22 _ rfl rfl R1.out ?_
        | (go_at_call 18; refine HS.out.mono ?_; rintro e w2 ⟨rfl, h⟩; have F1 := Lib.hid (KF.out.trans h (fun _ h => .inl h)); have C3 := Lib.hid (h.keep K3.out (fun x => x)); have C4 := Lib.hid (h.keep K4.out (fun x => x)); have S1 := Lib.hid (st16 C3.out Hsn.out (shufL_length s 16)); clear h)
        | refine wpList_store_arr rfl 22 _ _ rfl rfl rfl S1.out ?_)
      have hb3 := block_setRow (cs := u8s (shufL s 16)) C3.out
      have hb4 := block_setRow_other (b := p3) (cs := u8s (shufL s 16)) C4.out (fun e => n34 e.symm)
      have hfr := fr_setRow F1.out p3 (u8s (shufL s 16)) (.inr HL.out.1)
      generalize w2.setRow p3 (u8s (shufL s 16)) = U1 at *
      have U3 := Lib.hid hb3
      have U4 := Lib.hid hb4
      have UF := Lib.hid hfr
      clear hb3 hb4 hfr S1 C3 C4 F1 R1 HS K3 K4 KF
      have hX : preR s n = if n < 14 then mixL (shufL s 16) 16 else shufL s 16 := rfl
      obtain ⟨X, hXe⟩ : ∃ X, preR s n = X := ⟨_, rfl⟩
      have hXn : X.length = 16 := by rw [← hXe]; exact preR_length s n
      have hXl : ∀ i, X.getD i 0 < 256 := by rw [← hXe]; exact preR_lt s Hsl.out n
      rw [hXe] at hX Hnx
      have HX := Lib.hid hX
      have HXn := Lib.hid hXn
      have HXl := Lib.hid hXl
      clear hX hXe hXn hXl
      have hth : ∃ q, q = n ∧ q < 15 := ⟨n, rfl, by omega⟩
      rcases Nat.lt_or_ge n 14 with h13 | h13
      · have h13I : (n : Int) < 14 := by omega
        have hX : X = mixL (shufL s 16) 16 := by rw [HX.out, if_pos h13]
        have R1 := Lib.hid (ld16 U3.out (shufL_length s 16))
        have HM := Lib.hid (mix_is (shufL s 16) (shufL_length s 16) (shufL_lt s Hsl.out 16) U1)
        rw [← hX] at HM
        clear hX h13
        go_upto_region 10 with (first
          | refine wpList_load_arr rfl 22 _ rfl rfl R1.out ?_
          | (go_at_call 19; refine HM.out.mono ?_; rintro e w2 ⟨rfl, h⟩; have F1 := Lib.hid (UF.out.trans h (fun _ h => .inl h)); have C3 := Lib.hid (h.keep U3.out (fun x => x)); have C4 := Lib.hid (h.keep U4.out (fun x => x)); have S1 := Lib.hid (st16 C3.out (shufL_length s 16) HXn.out); clear h)
          | refine wpList_store_arr rfl 22 _ _ rfl rfl rfl S1.out ?_)
        have hb3 := block_setRow (cs := u8s X) C3.out
        have hb4 := block_setRow_other (b := p3) (cs := u8s X) C4.out (fun e => n34 e.symm)
        have hfr := fr_setRow F1.out p3 (u8s X) (.inr HL.out.1)
        generalize w2.setRow p3 (u8s X) = U2 at *
        have V3 := Lib.hid hb3
        have V4 := Lib.hid hb4
        have VF := Lib.hid hfr
        clear hb3 hb4 hfr S1 C3 C4 F1 R1 HM U3 U4 UF h13I
        have R1 := Lib.hid (ld16 (w := U2.drew) V3.out HXn.out)
        have K1 := Lib.hid (ldKey (w := U2.drew) (HC.out.keep VF.out.drew (fun x => x)) HW.out n (by have := hn.out; omega))
        have HT := Lib.hid (fun U => aturned_is X (keyL W n) HXn.out (keyL_length W n) HXl.out (keyL_lt W HWl.out n) U)
        rw [← Hnx.out] at HT
        refine wp_region_still_tail 7 (by kernel_rfl) (by kernel_rfl) ?_
        simp only [List.take_succ_cons, List.take_zero, List.drop_succ_cons, List.drop_zero]
        repeat (first | refine wpStill_load_arr rfl 22 _ rfl rfl R1.out ?_ | refine wpStill_load_arr rfl 22 _ rfl rfl K1.out ?_ | still_step)
        try refine wpStill_nil ?_
        show wpList _ _ _ _ _ U2.drew
        go_wp2_with (first
          | (go_at_call 17; refine (HT.out _).mono ?_; rintro e w2 ⟨rfl, h⟩; have F1 := Lib.hid (VF.out.drew.trans h (fun _ h => .inl h)); have C3 := Lib.hid ((h.keep (show U2.drew.heap[p3]? = _ from V3.out) (fun x => x))); have C4 := Lib.hid ((h.keep (show U2.drew.heap[p4]? = _ from V4.out) (fun x => x))); have S1 := Lib.hid (st16 C3.out HXn.out (rndN_length W b (r + 1))); clear h)
          | refine wpList_store_arr rfl 22 _ _ rfl rfl rfl S1.out ?_)
        have hb3 := block_setRow (cs := u8s (rndN W b (r + 1))) C3.out
        have hb4 := block_setRow_other (b := p3) (cs := u8s (rndN W b (r + 1))) C4.out (fun e => n34 e.symm)
        have hfr := fr_setRow F1.out p3 (u8s (rndN W b (r + 1))) (.inr HL.out.1)
        have M3 := Lib.hid hb3
        have M4 := Lib.hid hb4
        have MF := Lib.hid hfr
        clear hb3 hb4 hfr
        go_roundw
        case rel => exact ⟨r + 1, n + 1, by show _ = _; have := hn.out; omega, by omega, by go_num, MF, M3, M4⟩
        case measure => simp [intOf]; omega
      · have h13I : ¬ ((n : Int) < 14) := by omega
        have hX : X = shufL s 16 := by rw [HX.out, if_neg (by omega)]
        rw [← hX] at U3
        have V3 := U3
        have V4 := U4
        have VF := UF
        clear hX h13 U3 U4 UF
        go_upto_region 10 with fail
        have R1 := Lib.hid (ld16 (w := U1.drew) V3.out HXn.out)
        have K1 := Lib.hid (ldKey (w := U1.drew) (HC.out.keep VF.out.drew (fun x => x)) HW.out n (by have := hn.out; omega))
        have HT := Lib.hid (fun U => aturned_is X (keyL W n) HXn.out (keyL_length W n) HXl.out (keyL_lt W HWl.out n) U)
        rw [← Hnx.out] at HT
        refine wp_region_still_tail 7 (by kernel_rfl) (by kernel_rfl) ?_
        simp only [List.take_succ_cons, List.take_zero, List.drop_succ_cons, List.drop_zero]
        repeat (first | refine wpStill_load_arr rfl 22 _ rfl rfl R1.out ?_ | refine wpStill_load_arr rfl 22 _ rfl rfl K1.out ?_ | still_step)
        try refine wpStill_nil ?_
        show wpList _ _ _ _ _ U1.drew
        go_wp2_with (first
          | (go_at_call 17; refine (HT.out _).mono ?_; rintro e w2 ⟨rfl, h⟩; have F1 := Lib.hid (VF.out.drew.trans h (fun _ h => .inl h)); have C3 := Lib.hid ((h.keep (show U1.drew.heap[p3]? = _ from V3.out) (fun x => x))); have C4 := Lib.hid ((h.keep (show U1.drew.heap[p4]? = _ from V4.out) (fun x => x))); have S1 := Lib.hid (st16 C3.out HXn.out (rndN_length W b (r + 1))); clear h)
          | refine wpList_store_arr rfl 22 _ _ rfl rfl rfl S1.out ?_)
        have hb3 := block_setRow (cs := u8s (rndN W b (r + 1))) C3.out
        have hb4 := block_setRow_other (b := p3) (cs := u8s (rndN W b (r + 1))) C4.out (fun e => n34 e.symm)
        have hfr := fr_setRow F1.out p3 (u8s (rndN W b (r + 1))) (.inr HL.out.1)
        have M3 := Lib.hid hb3
        have M4 := Lib.hid hb4
        have MF := Lib.hid hfr
        clear hb3 hb4 hfr
        go_roundw
        case rel => exact ⟨r + 1, n + 1, by show _ = _; have := hn.out; omega, by omega, by go_num, MF, M3, M4⟩
        case measure => simp [intOf]; omega
    · obtain rfl : r = 14 := by omega
      obtain rfl : n = 15 := hn.out
      have hbk : rndN W b 14 = blockL W b := rfl
      rw [hbk] at K3
      have hbl : (blockL W b).length = 16 := rndN_length W b 14
      have hb4 := block_setRow (cs := u8s (blockL W b)) K4.out
      have R1 := Lib.hid (ld16 K3.out hbl)
      have S1 := Lib.hid (st16 K4.out (List.length_replicate ..) hbl)
      have R3 := Lib.hid (ld16 hb4 hbl)
      have MF := Lib.hid (fr_setRow KF.out p4 (u8s (blockL W b)) (.inr HL.out.2))
      clear hbk hbl hb4 hlt hr
      go_wp2_with (first | refine wpList_load_arr rfl 22 _ rfl rfl R1.out ?_ | refine wpList_store_arr rfl 22 _ _ rfl rfl rfl S1.out ?_)
      refine bodyPost_ret (results_cell Try.results9 rfl R3.out) rfl ?_
      exact ⟨rfl, MF.out⟩
end Go.Proofs.Ytmcenocmilhekaa
