/- ProbsLike: the walk of the law. -/
import Derived.Test.YtpddocehjljofaaPp
import Derived.Test.YtpddocehjljofaaOpp
import Derived.Deep.DrawnRows
namespace Go.Rc
theorem take_getD (T : List Nat) (k i : Nat) (h : i < k) : (T.take k).getD i 0 = T.getD i 0 := by
  rw [List.getD_eq_getElem?_getD, List.getElem?_take_of_lt h, ← List.getD_eq_getElem?_getD]
theorem putL_take (o : Nat) (T : List Nat) (s : Lk) (bs : List Nat) (hr : s.Room bs.length) (hb : ∀ b ∈ bs, b < 2) : (putL o (T.take 768) s bs).1 = (putL o T s bs).1 ∧ (putL o (T.take 768) s bs).2.1 = (putL o T s bs).2.1.take 768 := by
  induction bs generalizing T s with
  | nil => exact ⟨rfl, rfl⟩
  | cons b bs ih =>
    have hlt := (Lk.Room.lt hr o).1
    have h := ih (T.set (s.at_ o) (learn (T.getD (s.at_ o) 0) b)) (s.next o b) (hr.next o (hb b (List.mem_cons_self ..))) (fun x hx => hb x (List.mem_cons_of_mem _ hx))
    simp only [putL]
    rw [take_getD T 768 _ hlt, ← List.take_set, h.1, h.2]
    exact ⟨rfl, rfl⟩
/-- Bytes beside others, one behind the other. -/
def seqL (f : Nat → Nat × Nat) (T0 : List Nat) : Nat → List Op × List Nat
  | 0 => ([], T0)
  | i + 1 => ((seqL f T0 i).1 ++ (putL (f i).2 (seqL f T0 i).2 Lk.start (bitsHi (f i).1 8)).1, (putL (f i).2 (seqL f T0 i).2 Lk.start (bitsHi (f i).1 8)).2.1)
theorem start_room (x : Nat) : Lk.start.Room (bitsHi x 8).length := by rw [bitsHi_len]; exact Lk.Room.start
theorem seqL_ok (f : Nat → Nat × Nat) (T0 : List Nat) (L : Nat) (h : Pl T0 L) (hL : 768 ≤ L) (i : Nat) : AllFine (seqL f T0 i).1 ∧ Pl (seqL f T0 i).2 L ∧ (seqL f T0 i).1.length = 8 * i := by
  induction i with
  | zero => exact ⟨AllFine.nil, h, rfl⟩
  | succ i ih =>
    obtain ⟨h1, h2, h3⟩ := ih
    obtain ⟨g1, g2, g3⟩ := putL_ok (o := (f i).2) h2 hL (start_room (f i).1) (bitsHi_two _ _)
    refine ⟨h1.append g1, g2, ?_⟩
    simp only [seqL, List.length_append]
    rw [h3, g3, bitsHi_len, Nat.mul_succ]
theorem Pl.take {T : List Nat} {L k : Nat} (h : Pl T L) (hk : k ≤ L) : Pl (T.take k) k := by
  have hl := h.len
  refine ⟨by simp; omega, fun i hi => ?_⟩
  have : i < k := by simp at hi; omega
  rw [take_getD _ _ _ this]
  exact h.ok i (by omega)
end Go.Rc
namespace Go.Proofs.Ytpddocehjljofaa
set_option linter.unusedVariables false
open Go.RowKit Go.My

attribute [local go_sem ↓] Go.wp_at_zero Go.wp_at_succ

theorem new1024 (w : World) : Calls Try.prog 37 #[.int .i64 10] w fun r w' => r = .returned (.slice (some ⟨w.heap.size, 0, none⟩) 1024 1024) ∧ TrAt w' w.heap.size (List.replicate 1024 1024) ∧ Fr (fun _ => False) w w' := tree_new 10 10 (by decide) (by decide) w

set_option maxHeartbeats 8000000 in
set_option maxRecDepth 100000 in
theorem probsLike_walk (f : Nat → Nat × Nat) (hf : ∀ i, (f i).1 < 256 ∧ (f i).2 < 256) (A : Option Addr) (len cap : Nat) (hlen : len ≤ 9223372036854775807) (w : World)
    (hat : ∀ i, i < len → ∃ b off, A = some ⟨b, off, none⟩ ∧ B2At w b (off + i * 2) (f i)) :
    Calls Try.prog 7 #[.slice A len cap] w fun r w' => r = .returned (.bool true) ∧ Fr (fun _ => False) w w' := by
  have Hat := Lib.hid hat
  have Hf := Lib.hid hf
  obtain ⟨T0, hT0⟩ : ∃ T0, List.replicate 1024 1024 = T0 := ⟨_, rfl⟩
  have hpl : Rc.Pl T0 1024 := by rw [← hT0]; exact Rc.Pl.new 1024
  have htk : List.replicate 768 1024 = T0.take 768 := by rw [← hT0, List.take_replicate]; rfl
  have Hpl := Lib.hid hpl
  have Htk := Lib.hid htk
  have HT0 := Lib.hid hT0
  clear hat hf hT0 hpl htk
  go_enter Try.func7, Try.ntmps7
  go_upto_region 3 with (go_at_call 36; refine (speaks04 _).mono ?_; rintro r w1 ⟨rfl, h1⟩; have HF1 := Lib.hid h1; clear h1)
  go_upto_region 6 with (first
      | (go_at_call 37; refine (new1024 w1).mono ?_; rintro r w2 ⟨rfl, h1, h2⟩; rw [HT0.out] at h1; have HT2 := Lib.hid h1; have HF2 := Lib.hid (HF1.out.trans h2 (fun _ h => h.elim)); have hrn := ref_tree_new 768 w2 (by decide) (by decide); rw [Htk.out] at hrn; have Hrn := Lib.hid hrn; clear h1 h2 hrn)
      | (go_at_call 38; refine Hrn.out.mono ?_; rintro r w3 ⟨g, cap3, rfl, h1, h2, h3⟩; have HR3 := Lib.hid h1; have HT3 := Lib.hid (HT2.out.keep h2 (fun h => h)); have HF3 := Lib.hid (HF2.out.trans h2 (fun _ h => h.elim)); have Hg3 := Lib.hid h3; clear h1 h2 h3))
  go_upto_region 7 with (first
      | (go_at_call 13; refine (enc_new w3).mono ?_; rintro r w4 ⟨rfl, h1, h2⟩; have HE4 := Lib.hid h1; have HT4 := Lib.hid (HT3.out.keep h2 (fun h => h)); have HR4 := Lib.hid (HR3.out.keep h2 (fun h => h)); have HF4 := Lib.hid (HF3.out.trans h2 (fun _ h => h.elim)); clear h1 h2)
      | (go_at_call 14; refine (ref_new w4).mono ?_; rintro r w5 ⟨r0, rfl, h1, h2, h3⟩; obtain ⟨x0, cap0, L0, S0, ho, rfl, hr⟩ := h1.ex; have HA5 := Lib.hid h1; have HE5 := Lib.hid (HE4.out.keep h2 (fun _ _ h => h)); have HT5 := Lib.hid (HT4.out.keep h2 (fun h => h)); have HR5 := Lib.hid (HR4.out.keep h2 (fun h => h)); have HF5 := Lib.hid (HF4.out.trans h2 (fun _ h => h.elim)); have Hr5 := Lib.hid h3; have Hz5 := Lib.hid h2.size; clear h1 h2 h3 ho hr))
  have hst : ∃ W pe b bm, w5.alloc (.cells #[.slice x0 L0.length cap0, .int .u64 (S0 : Int)] 29) = W ∧ w3.heap.size = pe ∧ w1.heap.size = b ∧ w5.heap.size = bm ∧
        PpSt w W pe b bm g 768 cap3 (.slice none 0 0) [] T0 (.agg #[.slice x0 L0.length cap0, .int .u64 (S0 : Int)]) [] (T0.take 768) := by
      have hf : Fr (fun _ => False) w5 (w5.alloc (.cells #[.slice x0 L0.length cap0, .int .u64 (S0 : Int)] 29)) := (Fr.refl _ _).alloc _
      refine ⟨_, _, _, _, rfl, rfl, rfl, rfl, HE5.out.keep hf (fun _ _ h => h), HT5.out.keep hf (fun h => h), ⟨_, _, rfl, heap_alloc_new w5 _⟩, HA5.out.keep hf, HR5.out.keep hf (fun h => h), fun k hk hfo => ?_, HF5.out.trans hf (fun _ h => h.elim), ?_, HF1.out.size, HF5.out.size⟩
      · have h1 := Hr5.out k hk
        rcases hfo with rfl | hfo
        · have := lt_of_block HE4.out.at_.blk
          omega
        · cases hfo
      · rintro k (rfl | hk)
        · exact HF3.out.size
        · cases hk
  obtain ⟨W, pe, b, bm, hW, h1, h2, h3, hst⟩ := hst
  rw [hW, h1, h2, h3]
  have Hst := Lib.hid hst
  clear hst hW h1 h2 h3 HE5 HT5 HR5 HA5 HF5 Hr5 Hz5 HE4 HT4 HR4 HF4 HT3 HR3 HF3 Hg3 HT2 HF2 Hrn HT0 Htk
  go_upto_block 0 with fail
  go_cut [4, 7] (fun v4 _ wx => ∃ g' cap' v r, v4 = .slice (some ⟨g', 0, none⟩) 768 cap' ∧ Hid (PpSt w wx pe b bm g' 768 cap' v (Rc.seqL f T0 (min len 30)).1 (Rc.seqL f T0 (min len 30)).2 r (Rc.seqL f T0 (min len 30)).1 ((Rc.seqL f T0 (min len 30)).2.take 768)))
  case first =>
      go_wp2
      go_loopw [4, 7] (fun v4 v7 wr => ∃ (i : Nat) (g' cap' : Nat) (v r : Value), i ≤ len ∧ i ≤ 30 ∧ v7 = .int .i64 (i : Int) ∧ v4 = .slice (some ⟨g', 0, none⟩) 768 cap' ∧ Hid (PpSt w wr pe b bm g' 768 cap' v (Rc.seqL f T0 i).1 (Rc.seqL f T0 i).2 r (Rc.seqL f T0 i).1 ((Rc.seqL f T0 i).2.take 768))) (fun _ v7 _ => 30 - (intOf v7).toNat)
      case atStart => exact ⟨0, g, cap3, _, _, Nat.zero_le _, by omega, rfl, rfl, Hst.out⟩
      case round =>
        obtain ⟨i, g', cap', v, r, hi, hi2, rfl, rfl, HS⟩ := hrel
        clear Hst
        by_cases hlt : i < len ∧ i < 30
        · obtain ⟨hl1, hl2⟩ := hlt
          obtain ⟨eb, off, rfl, hx⟩ := Hat.out i hl1
          have c0 := HS.out.fr.cell_ hx.c0 (fun h => h)
          have c1 := HS.out.fr.cell_ hx.c1 (fun h => h)
          have hfi := Hf.out i
          have hok := Rc.seqL_ok f T0 1024 Hpl.out (by decide) i
          have hnx : Rc.seqL f T0 (i + 1) = ((Rc.seqL f T0 i).1 ++ (Rc.putL (f i).2 (Rc.seqL f T0 i).2 Rc.Lk.start (Rc.bitsHi (f i).1 8)).1, (Rc.putL (f i).2 (Rc.seqL f T0 i).2 Rc.Lk.start (Rc.bitsHi (f i).1 8)).2.1) := rfl
          obtain ⟨O, hO⟩ : ∃ O, (Rc.seqL f T0 i).1 = O := ⟨_, rfl⟩
          obtain ⟨T, hT⟩ : ∃ T, (Rc.seqL f T0 i).2 = T := ⟨_, rfl⟩
          rw [hO, hT] at HS hok hnx
          have htk := Rc.putL_take (f i).2 T Rc.Lk.start (Rc.bitsHi (f i).1 8) (Rc.start_room _) (Rc.bitsHi_two _ _)
          obtain ⟨x, hxx⟩ : ∃ x, (f i).1 = x := ⟨_, rfl⟩
          obtain ⟨y, hyy⟩ : ∃ x, (f i).2 = x := ⟨_, rfl⟩
          rw [hxx] at c0 hfi hnx htk
          rw [hyy] at c1 hfi hnx htk
          rw [show f i = (x, y) from Prod.ext hxx hyy] at hx
          have Hbx := Lib.hid hx
          obtain ⟨ho1, ho2, ho3⟩ := hok
          have hxi : (x : Int) < 256 := by omega
          have hyi : (y : Int) < 256 := by omega
          have hii : (i : Int) < 30 := by omega
          have hll : (i : Int) < (len : Int) := by omega
          have hoL : O.length ≤ 400 := by omega
          have Hnx := Lib.hid hnx
          have Htk := Lib.hid htk
          have Ho1 := Lib.hid ho1
          have Ho2 := Lib.hid ho2
          have HoL := Lib.hid hoL
          have Hx := Lib.hid hfi.1
          have Hy := Lib.hid hfi.2
          have hp1 := put_like pe v O b T 1024 1024 1024 x y wr.drew (HS.out.fresh (Fr.refl _ _).drew).enc (by omega) (HS.out.fresh (Fr.refl _ _).drew).tr ho2 (by decide) (by decide) hfi.1 hfi.2
          have Hp1 := Lib.hid hp1
          clear hx hnx htk hO hT hxx hyy ho1 ho2 ho3 hoL hp1 hfi
          go_upto_region 10 with fail
          clear hlen hi2 hl2 hi
          have Hl1 := Lib.hid hl1
          clear hl1
          go_still_tail 12, (by kernel_rfl)
          go_upto_region 11 with (go_at_call 42; refine Hp1.out.mono ?_; rintro r5 w6 ⟨rfl, h1⟩; obtain ⟨v6, h2⟩ := (HS.out.fresh (Fr.refl _ _).drew).put h1; have HS6 := Lib.hid h2; clear h1 h2)
          obtain ⟨u0, u1, rfl, hbm⟩ := HS6.out.hm
          have m0 : w6.cell? ⟨bm, 0, none⟩ = some u0 := (cell_of hbm 0).trans rfl
          have m1 : w6.cell? ⟨bm, 1, none⟩ = some u1 := (cell_of hbm 1).trans rfl
          clear c0 c1
          have c0 : w6.cell? ⟨eb, off + i * 2, none⟩ = some (.int .u8 (x : Int)) := HS6.out.fr.cell_ Hbx.out.c0 (fun h => h)
          have c1 : w6.cell? ⟨eb, off + i * 2 + 1, none⟩ = some (.int .u8 (y : Int)) := HS6.out.fr.cell_ Hbx.out.c1 (fun h => h)
          have hrp := ref_put_like (.agg #[u0, u1]) (Rc.A.start.run O) g' 768 cap' (T.take 768) x y w6.drew (HS6.out.fresh (Fr.refl _ _).drew).ra (Rc.A.Good.start.run Ho1.out) (by have := run_k Rc.A.start O; have h0 : Rc.A.start.k = 0 := rfl; have := HoL.out; omega) (HS6.out.fresh (Fr.refl _ _).drew).rt (Ho2.out.take (by decide)) (by decide) (by decide) Hx.out Hy.out
          rw [Htk.out.1, Htk.out.2] at hrp
          have Hrp := Lib.hid hrp
          have Hbm := Lib.hid hbm
          clear hrp hbm
          have hii0 : (0 : Int) ≤ (i : Int) := by omega
          obtain ⟨O2, hO2⟩ : ∃ z, O ++ (Rc.putL y T Rc.Lk.start (Rc.bitsHi x 8)).1 = z := ⟨_, rfl⟩
          obtain ⟨T2, hT2⟩ : ∃ z, (Rc.putL y T Rc.Lk.start (Rc.bitsHi x 8)).2.1 = z := ⟨_, rfl⟩
          rw [hT2, ← Rc.A.run_append, hO2] at Hrp
          rw [hO2, hT2] at HS6 Hnx
          clear hO2 hT2
          have hbe : bm ≠ eb := by have h1 := HS6.out.hibm; have h2 : eb < w.heap.size := block_lt_of_cell (a := ⟨eb, off + i * 2, none⟩) Hbx.out.c0; omega
          have heb : eb ≠ bm := Ne.symm hbe
          have hwx : IntKind.i64.wrap (x : Int) = (x : Int) := IntWalk.i64_in _ (by omega)
          have hwy : IntKind.i64.wrap (y : Int) = (y : Int) := IntWalk.i64_in _ (by omega)
          go_region_with ((go_at_call 43; refine Hrp.out.mono ?_; rintro r5 w7 ⟨r7, g7, cap7, rfl, h1, h2, h3, h4, h5⟩; obtain ⟨z0, zc, zL, zS, zo, rfl, zr⟩ := h1.ex; have h3b : Fr (fun _ => False) w6 w7 := ((Fr.refl _ _).drew.trans h3 (fun _ h => h.elim)); have hb7 := h3b.keep Hbm.out (fun h => h); have k0 : w7.cell? ⟨bm, 0, none⟩ = some u0 := (cell_of hb7 0).trans rfl; have k1 : w7.cell? ⟨bm, 1, none⟩ = some u1 := (cell_of hb7 1).trans rfl; have kc0 := h3b.cell_ c0 (fun h => h); have kc1 := h3b.cell_ c1 (fun h => h); have kf0 := free_of hb7 0; have kf1 := free_of hb7 1; have HS7 := Lib.hid (HS6.out.ref h3b h1 h5 h2); clear h1 h2 h3 h4 h5 h3b zo zr hb7))
          all_goals go_wp2
          all_goals go_roundw
          all_goals first | (simp [intOf]; omega) | skip
          all_goals exact ⟨i + 1, g7, cap7, _, _, Hl1.out, by omega, by go_num, rfl, by rw [Hnx.out]; exact HS7⟩
        · have hN : i = min len 30 := by omega
          rw [hN] at HS
          by_cases hl : i < len
          · have hl' : decide (i < len) = true := by simpa using hl
            have h80 : decide ((i : Int) < 30) = false := by simp; omega
            clear hlt hN hi hi2 hl
            go_wp2
            go_meet
            exact ⟨g', cap', v, r, rfl, HS⟩
          · have hl' : decide (i < len) = false := by simpa using hl
            clear hlt hN hi hi2 hl
            go_wp2
            go_meet
            exact ⟨g', cap', v, r, rfl, HS⟩
  case rest =>
      obtain ⟨g', cap', v, r, rfl, HS⟩ := hcut
      clear Hst hlen
      have hok := Rc.seqL_ok f T0 1024 Hpl.out (by decide) (min len 30)
      obtain ⟨O, hO⟩ : ∃ O, (Rc.seqL f T0 (min len 30)).1 = O := ⟨_, rfl⟩
      obtain ⟨T, hT⟩ : ∃ T, (Rc.seqL f T0 (min len 30)).2 = T := ⟨_, rfl⟩
      rw [hO, hT] at HS hok
      obtain ⟨ho1, ho2, ho3⟩ := hok
      have hoL : O.length ≤ 10000 := by omega
      have Ho2 := Lib.hid ho2
      have HoL := Lib.hid hoL
      clear hO hT ho1 ho2 ho3 hoL
      go_upto_block 2 with fail
      go_cut [8] (fun _ wx => Hid (PpSt w wx pe b bm g' 768 cap' v O T r O (T.take 768)))
      case first =>
        go_wp2
        go_loopw [8] (fun v8 wr => ∃ i : Nat, i ≤ 768 ∧ v8 = .int .i64 (i : Int) ∧ Hid (PpSt w wr pe b bm g' 768 cap' v O T r O (T.take 768))) (fun v8 _ => 768 - (intOf v8).toNat)
        case atStart => exact ⟨0, Nat.zero_le _, rfl, HS.out⟩
        case round =>
          obtain ⟨i, hi, rfl, HS2⟩ := hrel
          clear HS
          by_cases hlt : i < 768
          · have hii : (i : Int) < 768 := by omega
            have hi24 : (i : Int) < 1024 := by omega
            have hi0 : (0 : Int) ≤ (i : Int) := by omega
            have ht := HS2.out.tr.get (k := i) (by rw [Ho2.out.len]; omega)
            have hu := HS2.out.rt.get (k := i) hlt
            rw [Rc.take_getD T 768 i hlt] at hu
            have hpr := (Ho2.out.ok i (by rw [Ho2.out.len]; omega)).2
            obtain ⟨x, hx⟩ : ∃ x, T.getD i 0 = x := ⟨_, rfl⟩
            rw [hx] at ht hu hpr
            have hcv : IntKind.u64.wrap (x : Int) = (x : Int) := IntWalk.u64_in _ (by omega)
            have hne : ((x : Int) != (x : Int)) = false := by simp
            clear hx hpr
            go_upto_region 15 with fail
            go_quiet (fail)
            go_wp2
            go_roundw
            case rel => exact ⟨i + 1, by omega, by go_num, HS2.out.fresh ((Fr.refl _ _).drewN _)⟩
            case measure => simp [intOf]; omega
          · obtain rfl : i = 768 := by omega
            go_wp2
            go_meet
            exact HS2
      case rest =>
        have HS2 : Hid (PpSt w wc pe b bm g' 768 cap' v O T r O (T.take 768)) := hcut
        clear HS hcut
        obtain ⟨u0, u1, rfl, hbm⟩ := HS2.out.hm
        have m0 : wc.cell? ⟨bm, 0, none⟩ = some u0 := (cell_of hbm 0).trans rfl
        have m1 : wc.cell? ⟨bm, 1, none⟩ = some u1 := (cell_of hbm 1).trans rfl
        obtain ⟨S, hE, hR⟩ := HS2.out.ends HoL.out
        have HE := Lib.hid hE
        have HR := Lib.hid hR
        have HF0 : Hid (Fr (fun _ => False) wc wc.drew) := (Fr.refl _ _).drew
        have Hfr := Lib.hid HS2.out.fr
        clear hbm hE hR
        go_upto_region 17 with fail
        go_region_with (first | (go_at_call 22; (with_reducible refine (HE.out _ HF0.out).mono ?_); rintro r8 w8 ⟨rfl, h2⟩; have HF8 := Lib.hid (HF0.out.trans h2 (fun _ h => .inl h)); have m0b := HF8.out.cell_ m0 (fun h => h); have m1b := HF8.out.cell_ m1 (fun h => h); clear h2) | (go_at_call 23; (with_reducible refine (HR.out _ HF0.out).mono ?_); rintro r9 w9 ⟨rfl, h2⟩; have HF9 := Lib.hid (HF0.out.trans h2 (fun _ h => .inl h)); clear h2) | (go_at_call 22; (with_reducible refine (HE.out _ HF9.out).mono ?_); rintro r8 w10 ⟨rfl, h2⟩; have HFz := Lib.hid (HF9.out.trans h2 (fun _ h => .inl h)); clear h2) | (go_at_call 23; (with_reducible refine (HR.out _ HF8.out).mono ?_); rintro r9 w10 ⟨rfl, h2⟩; have HFz := Lib.hid (HF8.out.trans h2 (fun _ h => .inl h)); clear h2))
        all_goals go_wp2
        all_goals go_ret
        all_goals exact ⟨rfl, Hfr.out.trans HFz.out (fun _ h => .inl h)⟩
end Go.Proofs.Ytpddocehjljofaa
