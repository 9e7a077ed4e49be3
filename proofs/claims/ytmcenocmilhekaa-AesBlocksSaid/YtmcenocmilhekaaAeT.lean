/- Walks of layer 25 (aes): a text turned. -/
import Derived.Test.YtmcenocmilhekaaAeY
import Derived.Test.YtmcenocmilhekaaOps2
import Derived.BigRegion
namespace Go.Proofs.Ytmcenocmilhekaa
set_option linter.unusedVariables false
open Go.RowKit Go.My Go.Aes

set_option maxRecDepth 100000 in
theorem block_nil (b : List Nat) (w : World) :
    Calls Try.prog 9 #[.pointer none, .agg (u8s b)] w fun e w' => e = .returned (.agg (u8s (List.replicate 16 0))) ∧ Fr (fun _ => False) w w' := by
  go_enter Try.func9, Try.ntmps9
  go_upto_region 2 with fail
  show Code.wp _ _ _ _ ((w.alloc (.cells (u8s b) 22)).alloc (.cells (u8s (List.replicate 16 0)) 22))
  have h := heap_alloc_new (w.alloc (.cells (u8s b) 22)) (.cells (u8s (List.replicate 16 0)) 22)
  rw [show (w.alloc (.cells (u8s b) 22)).heap.size = w.heap.size + 1 by simp] at h
  have hf : Fr (fun _ => False) w ((w.alloc (.cells (u8s b) 22)).alloc (.cells (u8s (List.replicate 16 0)) 22)) := ((Fr.refl _ w).alloc _).alloc _
  obtain ⟨p, hp⟩ : ∃ p, w.heap.size + 1 = p := ⟨_, rfl⟩
  obtain ⟨V, hV⟩ : ∃ V, (w.alloc (.cells (u8s b) 22)).alloc (.cells (u8s (List.replicate 16 0)) 22) = V := ⟨_, rfl⟩
  rw [hV, hp] at h
  rw [hV] at hf
  rw [hV, hp]
  have S1 := Lib.hid (st16 h (List.length_replicate ..) (List.length_replicate .. : (List.replicate 16 0 : List Nat).length = 16))
  have R3 := Lib.hid (ld16 (block_setRow (cs := u8s (List.replicate 16 0)) h) (List.length_replicate ..))
  have MF := Lib.hid (fr_setRow hf p (u8s (List.replicate 16 0)) (.inr (by omega)))
  clear hV hp hf h
  go_wp2_with (refine wpList_store_arr rfl 22 _ _ rfl rfl rfl S1.out ?_)
  refine bodyPost_ret (results_cell Try.results9 rfl R3.out) rfl ?_
  exact ⟨rfl, MF.out⟩
set_option maxRecDepth 100000 in
theorem ctr_nil (b : List Nat) (s : ByteArray) (w : World) :
    Calls Try.prog 12 #[.pointer none, .agg (u8s b), .string s] w fun e w' => e = .returned (.string ⟨#[]⟩) ∧ Fr (fun _ => False) w w' := by
  go_enter Try.func12, Try.ntmps12
  go_wp2
  go_ret
  exact ⟨rfl, (Fr.refl _ w).alloc _⟩

/-- A row of bytes at a known place. -/
def BrG (w : World) (n g cap : Nat) (bs : List UInt8) : Prop := ∃ cur fr, BR w 0 (.slice (some ⟨g, 0, none⟩) n cap) bs g cap cur fr
theorem BrG.keep {w w' : World} {n g cap : Nat} {bs : List UInt8} {S : Nat → Prop} (h : BrG w n g cap bs) (hf : Fr S w w') (hS : ¬ S g) : BrG w' n g cap bs := by
  obtain ⟨cur, fr, h⟩ := h
  exact ⟨cur, fr, ⟨h.val, hf.keep h.blk hS, h.base, h.le, h.room, h.is, h.free⟩⟩
theorem BrG.lt {w : World} {n g cap : Nat} {bs : List UInt8} (h : BrG w n g cap bs) : g < w.heap.size := by
  obtain ⟨cur, fr, h⟩ := h
  exact lt_of_block h.blk
theorem BrG.cell {w : World} {n g cap : Nat} {bs : List UInt8} (h : BrG w n g cap bs) (j : Nat) (hj : j < bs.length) : w.cell? ⟨g, j, none⟩ = some (.int .u8 ((bs.getD j 0).toNat : Int)) := by
  obtain ⟨cur, fr, h⟩ := h
  exact h.cell j hj
theorem BrG.notf {w : World} {n g cap : Nat} {bs : List UInt8} (h : BrG w n g cap bs) (j : Nat) (hj : j < bs.length) : w.frozen? ⟨g, j, none⟩ = false := by
  obtain ⟨cur, fr, h⟩ := h
  exact h.notf j (Nat.lt_of_lt_of_le hj h.le)
theorem BrG.set {w : World} {n g cap : Nat} {bs : List UInt8} (h : BrG w n g cap bs) (i : Nat) (b : UInt8) : BrG (w.setCell ⟨g, i, none⟩ (.int .u8 (b.toNat : Int))) n g cap (bs.set i b) := by
  obtain ⟨cur, fr, h⟩ := h
  refine ⟨cur.setIfInBounds i (.int .u8 (b.toNat : Int)), fr, ⟨by rw [h.val, List.length_set], block_setCell h.blk _, h.base, by rw [List.length_set]; exact h.le, by rw [Array.size_setIfInBounds]; exact h.room, fun j hj => ?_, h.free⟩⟩
  rw [List.length_set] at hj
  rw [Array.getElem?_setIfInBounds]
  by_cases e : i = j
  · subst e
    rw [if_pos rfl, if_pos (by have := h.le; have := h.room; omega)]
    simp [List.getD, hj]
  · rw [if_neg e, h.is j hj]
    simp only [List.getD]
    rw [List.getElem?_set_ne e]
theorem BrG.text {w : World} {n g cap : Nat} {bs : List UInt8} (h : BrG w n g cap bs) : (convert 36 9 (.slice (some ⟨g, 0, none⟩) n cap)).run Try.prog w = .ok (.string ⟨bs.toArray⟩) w := by
  obtain ⟨cur, fr, h⟩ := h
  exact Br.text (B := 0) ⟨g, cap, cur, fr, h⟩
theorem ctrL_past (W iv : List Nat) (s : List UInt8) (k : Nat) (hk : s.length ≤ k) : ctrL W iv s k = ctrL W iv s s.length := by
  unfold ctrL
  exact List.map_congr_left (fun i hi => by
    have := List.mem_range.1 hi
    rw [if_pos (by omega), if_pos this])
theorem xorU (a : UInt8) (p : Nat) (hp : p < 256) : Go.bits .xor .u8 (a.toNat : Int) (p : Int) = (((a ^^^ p.toUInt8).toNat : Nat) : Int) := by
  rw [xorB _ _ a.toNat_lt hp, UInt8.toNat_xor]
  congr 2
  simp
  omega

set_option maxHeartbeats 4000000 in
set_option maxRecDepth 100000 in
theorem ctr_is (W iv : List Nat) (hiv : iv.length = 16) (hil : ∀ i, iv.getD i 0 < 256) (hW : W.length = 240) (hWl : ∀ i, W.getD i 0 < 256) (s : ByteArray) (hs : s.size ≤ 50) (c : Nat) (w : World) (hC : Cip w c W) :
    Calls Try.prog 12 #[.pointer (some ⟨c, 0, none⟩), .agg (u8s iv), .string s] w fun e w' => e = .returned (.string ⟨(ctrL W iv s.data.toList s.size).toArray⟩) ∧ Fr (fun _ => False) w w' := by
  obtain ⟨l, hl⟩ : ∃ l, s.data.toList = l := ⟨_, rfl⟩
  have hsz : s.size = l.length := by rw [← hl]; simp
  obtain ⟨n, hn⟩ : ∃ n, l.length = n := ⟨_, rfl⟩
  have hsn : s.size = n := by omega
  have Hn := Lib.hid hn
  have Hsn := Lib.hid hsn
  have Hl := Lib.hid hl
  rw [hl, hsn]
  have hn50 : n ≤ 50 := by omega
  have Hiv := Lib.hid hiv
  have Hil := Lib.hid hil
  have HW := Lib.hid hW
  have HWl := Lib.hid hWl
  have HC := Lib.hid hC
  clear hl hsz hn hsn hs hiv hil hW hWl hC
  go_enter Try.func12, Try.ntmps12
  go_upto_region 3 with fail
  show Code.wp _ _ _ _ (w.alloc (.cells (u8s iv) 22))
  have hb := heap_alloc_new w (.cells (u8s iv) 22)
  have hf : Fr (fun _ => False) w (w.alloc (.cells (u8s iv) 22)) := (Fr.refl _ w).alloc _
  obtain ⟨p4, hp4⟩ : ∃ p, w.heap.size = p := ⟨_, rfl⟩
  obtain ⟨V, hV⟩ : ∃ V, w.alloc (.cells (u8s iv) 22) = V := ⟨_, rfl⟩
  rw [hV, hp4] at hb
  rw [hV] at hf
  rw [hV, hp4]
  have hmade := Br.made V 0 (Nat.zero_le _) s
  have hfr := fr_made V s
  have hcv := Lib.run_convert_string_bytes (P := Try.prog) V 9 36 5 s Try.underlying9 Try.underlying36 Try.underlying5
  rw [Hl.out, Hsn.out] at hmade
  rw [Hsn.out] at hcv
  have hpg : p4 < V.heap.size := lt_of_block hb
  have hb2 := hfr.keep hb (fun x => x)
  have hf2 := hf.trans hfr (fun _ h => .inl h)
  generalize Lib.bytesWorld V 5 s = V2 at *
  generalize V.heap.size = g at *
  generalize grownCap V n 0 5 = cap at *
  have hBG : BrG V2 n g cap (ctrL W iv l 0) := by
    rw [ctrL_zero]
    obtain ⟨g', cap', cur, fr, h⟩ := hmade
    have e := h.val
    injection e with e1 e2 e3
    injection e1 with e1
    injection e1 with e1
    subst e1 e3
    exact ⟨cur, fr, h⟩
  have hpg2 : p4 ≠ g := by omega
  have Hcv := Lib.hid hcv
  have HB := Lib.hid hb2
  have HF := Lib.hid hf2
  have HG := Lib.hid hBG
  have Hp4 : Hid (w.heap.size = p4) := hp4
  have Hpg : Hid (p4 < g) := hpg
  clear hmade hfr hcv hpg hb2 hf2 hBG hf hb hp4 hV
  go_upto_block 0 with (refine wpList_cv 9 36 _ rfl rfl _ _ rfl Hcv.out ?_)
  clear Hcv
  go_wp2
  go_loopw [8, 9, 10] (fun v8 _ _ wr => ∃ a m : Nat, Hid (a = 16 * m) ∧ a ≤ n + 15 ∧ v8 = .int .i64 (a : Int) ∧ Hid (Fr (fun _ => False) w wr) ∧ Hid (wr.heap[p4]? = some (.cells (u8s (ivN iv m)) 22 (0, 0))) ∧ Hid (BrG wr n g cap (ctrL W iv l a))) (fun v8 _ _ _ => n + 16 - (intOf v8).toNat)
  case atStart => exact ⟨0, 0, rfl, by omega, rfl, HF, HB, HG⟩
  case round =>
    obtain ⟨a, m, ham, hab, rfl, KF, KB, KG⟩ := hrel
    clear HF HB HG
    by_cases hlt : a < n
    · have hlI : (a : Int) < (n : Int) := by omega
      obtain ⟨v, hv⟩ : ∃ v, ivN iv m = v := ⟨_, rfl⟩
      have hvn : v.length = 16 := by rw [← hv, ivN_length]; exact Hiv.out
      have hvl : ∀ i, v.getD i 0 < 256 := by rw [← hv]; exact ivN_lt iv Hil.out m
      have hnx : ivN iv (m + 1) = nextL v 16 := by rw [← hv]; rfl
      have hpd : ∀ i, a ≤ i → i < a + 16 → padB W iv i = (blockL W v).getD (i - a) 0 := fun i h1 h2 => by
        have := ham.out
        unfold padB
        rw [show i / 16 = m by omega, show i % 16 = i - a by omega, hv]
      rw [hv] at KB
      obtain ⟨PD, hPD⟩ : ∃ PD, blockL W v = PD := ⟨_, rfl⟩
      have hPn : PD.length = 16 := by rw [← hPD]; exact rndN_length W v 14
      have hPl : ∀ i, PD.getD i 0 < 256 := by rw [← hPD]; exact rndN_lt W v HWl.out hvl 14
      have hbk := block_is W v hvn hvl HW.out HWl.out c wr (HC.out.keep KF.out (fun x => x))
      rw [hPD] at hbk hpd
      have Hv := Lib.hid hv
      have Hvn := Lib.hid hvn
      have Hvl := Lib.hid hvl
      have Hnx := Lib.hid hnx
      have Hpd := Lib.hid hpd
      have HPn := Lib.hid hPn
      have HPl := Lib.hid hPl
      have HBk := Lib.hid hbk
      have R1 := Lib.hid (ld16 KB.out hvn)
      clear hv hvn hvl hnx hpd hPD hPn hPl hbk
      go_upto_block 2 with (first
        | refine wpList_load_arr rfl 22 _ rfl rfl R1.out ?_
        | (go_at_call 9; refine HBk.out.mono ?_; rintro e w2 ⟨rfl, h⟩; have F2 := Lib.hid (KF.out.trans h (fun _ h => .inl h)); have C4 := Lib.hid (h.keep KB.out (fun x => x)); have G2 := Lib.hid (KG.out.keep h (fun x => x)); have S1 := Lib.hid (st16 (w := w2.alloc (.cells (u8s (List.replicate 16 0)) 22)) (heap_alloc_new w2 _) (List.length_replicate ..) HPn.out); clear h)
        | refine wpList_store_arr rfl 22 _ _ rfl rfl rfl S1.out ?_)
      show Code.wp _ _ _ _ ((w2.alloc (.cells (u8s (List.replicate 16 0)) 22)).setRow w2.heap.size (u8s PD))
      have hfr : Fr (fun k => k = w2.heap.size) w2 ((w2.alloc (.cells (u8s (List.replicate 16 0)) 22)).setRow w2.heap.size (u8s PD)) := fr_setRow ((Fr.refl (fun k => k = w2.heap.size) w2).alloc _) w2.heap.size _ (.inl rfl)
      have hb9 := block_setRow (cs := u8s PD) (heap_alloc_new w2 (.cells (u8s (List.replicate 16 0)) 22))
      have hl9 : w.heap.size ≤ w2.heap.size := F2.out.size
      have hg9 : g ≠ w2.heap.size := by have := G2.out.lt; omega
      have h49 : p4 ≠ w2.heap.size := by have := lt_of_block C4.out; omega
      generalize (w2.alloc (.cells (u8s (List.replicate 16 0)) 22)).setRow w2.heap.size (u8s PD) = V3 at *
      generalize w2.heap.size = p9 at *
      have F3 := Lib.hid (F2.out.trans hfr (fun k hk => .inr (by omega)))
      have B3 := Lib.hid (hfr.keep C4.out h49)
      have G3 := Lib.hid (G2.out.keep hfr hg9)
      have B9 := Lib.hid hb9
      clear hfr hb9 S1 F2 C4 G2 HBk R1 KF KB KG
      go_cut [10] (fun _ wx => Hid (Fr (fun _ => False) w wx) ∧ Hid (wx.heap[p4]? = some (.cells (u8s v) 22 (0, 0))) ∧ Hid (BrG wx n g cap (ctrL W iv l (a + 16))))
      case first =>
        go_wp2
        go_loopw [10] (fun v10 wr => ∃ i : Nat, a ≤ i ∧ i ≤ a + 16 ∧ i ≤ n ∧ v10 = .int .i64 (i : Int) ∧ Hid (Fr (fun _ => False) w wr) ∧ Hid (wr.heap[p4]? = some (.cells (u8s v) 22 (0, 0))) ∧ Hid (BrG wr n g cap (ctrL W iv l i)) ∧ Hid (wr.heap[p9]? = some (.cells (u8s PD) 22 (0, 0)))) (fun v10 _ => n - (intOf v10).toNat)
        case atStart => exact ⟨a, by omega, by omega, by omega, rfl, F3, B3, G3, B9⟩
        case round =>
          obtain ⟨i, hi1, hi2, hi3, rfl, LF, LB, LG, L9⟩ := hrel
          clear F3 B3 G3 B9
          rcases Int.lt_or_le (n : Int) ((a : Int) + 16) with hcI | hcI'
          case' inr => have hcI : ¬ ((n : Int) < (a : Int) + 16) := by omega
          all_goals
            by_cases hli : i < a + 16 ∧ i < n
            · obtain ⟨h1, h2⟩ := hli
              have h1I : (i : Int) < (a : Int) + 16 := by omega
              have h2I : (i : Int) < (n : Int) := by omega
              obtain ⟨j, hj⟩ : ∃ j, i - a = j := ⟨_, rfl⟩
              have hjI : (i : Int) - (a : Int) = (j : Int) := by omega
              have hjW : IntKind.i64.wrap ((i : Int) - (a : Int)) = (j : Int) := by rw [hjI, IntWalk.i64_in _ (by omega)]
              have hj0 : (0 : Int) ≤ (j : Int) := by omega
              have hj16 : (j : Int) < 16 := by omega
              have hi0 : (0 : Int) ≤ (i : Int) := by omega
              have hill : i < l.length := by rw [Hn.out]; omega
              have hic : i < (ctrL W iv l i).length := by rw [ctrL_length]; exact hill
              obtain ⟨b0, hb0⟩ : ∃ b, l.getD i 0 = b := ⟨_, rfl⟩
              have c0 : wr.cell? ⟨g, i, none⟩ = some (.int .u8 (b0.toNat : Int)) := by
                rw [LG.out.cell i hic, ctrL_get W iv l i i hill, if_neg (Nat.lt_irrefl _), hb0]
              have f0 := LG.out.notf i hic
              obtain ⟨pd, hpd⟩ : ∃ x, PD.getD j 0 = x := ⟨_, rfl⟩
              have hpl : pd < 256 := by rw [← hpd]; exact HPl.out j
              have c9 : wr.cell? ⟨p9, j, none⟩ = some (.int .u8 (pd : Int)) := (cell_of L9.out j).trans ((u8s_get _ _ (by rw [HPn.out]; omega)).trans (by rw [hpd]))
              have hz := xorU b0 pd hpl
              obtain ⟨xb, hxb⟩ : ∃ x, b0 ^^^ pd.toUInt8 = x := ⟨_, rfl⟩
              rw [hxb] at hz
              have hset := LG.out.set i xb
              have hcs := ctrL_set W iv l i hill
              rw [Hpd.out i hi1 h1, hj, hpd, hb0, hxb] at hcs
              rw [hcs] at hset
              have hfr := (Fr.refl (fun k => k = g) wr).setCell ⟨g, i, none⟩ (.int .u8 (xb.toNat : Int)) (.inl rfl)
              have MF := Lib.hid (LF.out.trans hfr (fun k hk => .inr (by have := Hpg.out; have := Hp4.out; omega)))
              have MB := Lib.hid (hfr.keep LB.out hpg2)
              have M9 := Lib.hid (hfr.keep L9.out (fun e => hg9 e.symm))
              have MG := Lib.hid hset
              have HZ := Lib.hid hz
              have hjI' := hjI
              clear hz hset hcs hfr hpd hpl hb0 hic hill hj hjI' hxb
              go_upto_region 11 with fail
              go_region
              all_goals (try rw [HZ.out])
              all_goals go_wp2
              all_goals go_roundw
              all_goals first
                | exact ⟨i + 1, by omega, by omega, by omega, by go_num, MF.out.drew, MB, MG.out.keep ((Fr.refl (fun _ => False) _).drew) (fun x => x), M9⟩
                | (simp [intOf]; omega)
            · have hx : ((n : Int) < (a : Int) + 16 → ¬ ((i : Int) < (n : Int))) ∧ (¬ ((n : Int) < (a : Int) + 16) → ¬ ((i : Int) < (a : Int) + 16)) := by refine ⟨?_, ?_⟩ <;> omega
              have hx1 := hx.1
              have hx2 := hx.2
              clear hx
              first | (have hx := hx1 hcI; clear hx1 hx2) | (have hx := hx2 hcI; clear hx1 hx2)
              have e : ctrL W iv l i = ctrL W iv l (a + 16) := by
                rcases Nat.lt_or_ge i (a + 16) with h | h
                · rw [ctrL_past W iv l i (by rw [Hn.out]; omega), ctrL_past W iv l (a + 16) (by rw [Hn.out]; omega)]
                · rw [show i = a + 16 by omega]
              rw [e] at LG
              clear e hli
              go_wp2
              go_meet
              exact ⟨LF, LB, LG⟩
      case rest =>
        obtain ⟨LF, LB, LG⟩ := hcut
        clear F3 B3 G3 B9
        have R1 := Lib.hid (ld16 LB.out Hvn.out)
        have HN := Lib.hid (next_is v Hvn.out Hvl.out wc)
        rw [← Hnx.out] at HN
        have hvn2 : (ivN iv (m + 1)).length = 16 := by rw [ivN_length]; exact Hiv.out
        have Hvn2 := Lib.hid hvn2
        clear hvn2
        go_wp2_with (first
          | refine wpList_load_arr rfl 22 _ rfl rfl R1.out ?_
          | (go_at_call 20; refine HN.out.mono ?_; rintro e w5 ⟨rfl, h⟩; have F5 := Lib.hid (LF.out.trans h (fun _ h => .inl h)); have B5 := Lib.hid (h.keep LB.out (fun x => x)); have G5 := Lib.hid (LG.out.keep h (fun x => x)); have S5 := Lib.hid (st16 B5.out Hvn.out Hvn2.out); clear h)
          | refine wpList_store_arr rfl 22 _ _ rfl rfl rfl S5.out ?_)
        have hfr := fr_setRow (Fr.refl (fun k => k = p4) w5) p4 (u8s (ivN iv (m + 1))) (.inl rfl)
        have MF := Lib.hid (F5.out.trans hfr (fun k hk => .inr (by have := Hp4.out; omega)))
        have MB := Lib.hid (block_setRow (cs := u8s (ivN iv (m + 1))) B5.out)
        have MG := Lib.hid (G5.out.keep hfr (fun e => hpg2 e.symm))
        clear hfr
        go_roundw
        case rel => exact ⟨a + 16, m + 1, by show _ = _; have := ham.out; omega, by omega, by go_num, MF, MB, MG⟩
        case measure => simp [intOf]; omega
    · have hlI : ¬ ((a : Int) < (n : Int)) := by omega
      have e : ctrL W iv l a = ctrL W iv l n := by rw [ctrL_past W iv l a (by rw [Hn.out]; omega), ctrL_past W iv l n (by rw [Hn.out]; exact Nat.le_refl _)]
      rw [e] at KG
      have Htx := Lib.hid KG.out.text
      clear e hlt
      go_wp2_with (refine wpList_cv 36 9 _ rfl rfl _ _ rfl Htx.out ?_)
      go_ret
      exact ⟨rfl, KF.out⟩
end Go.Proofs.Ytmcenocmilhekaa
