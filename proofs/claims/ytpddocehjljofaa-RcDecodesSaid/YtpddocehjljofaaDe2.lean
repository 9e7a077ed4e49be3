/- RcDecodes: the walk of the law. -/
import Derived.Test.YtpddocehjljofaaDe
import Derived.BigQuiet
namespace Go.Proofs.Ytpddocehjljofaa
open Go.RowKit Go.My

set_option maxHeartbeats 8000000 in
set_option maxRecDepth 100000 in
theorem rcDecodes_walk (f : Nat → Rc.Stp) (hf : ∀ i, (f i).Ok) (A : Option Addr) (len cap : Nat) (hlen : len ≤ 9223372036854775807) (s : ByteArray) (hs : s.size ≤ 140737488351232) (w : World)
    (hat : ∀ i, i < len → ∃ b off, A = some ⟨b, off, none⟩ ∧ StpAt w b (off + i * 5) (f i)) :
    Calls Try.prog 5 #[.string s, .slice A len cap] w fun r w' => r = .returned (.bool true) ∧ Fr (fun _ => False) w w' := by
  obtain ⟨P0, hP0⟩ : ∃ P0, P0 = [1024, 1024, 1024, 1024] := ⟨_, rfl⟩
  have hPs : Rc.Ps P0 := by rw [hP0]; exact Rc.Ps.start
  have Hat := Lib.hid hat
  have Hf := Lib.hid hf
  have HP := Lib.hid hPs
  have HP0 := Lib.hid hP0
  have Hs := Lib.hid hs
  clear hat hf hPs hP0 hs
  go_enter Try.func5, Try.ntmps5
  go_upto_region 3 with (go_at_call 12; refine (speaks03 _).mono ?_; rintro r w1 ⟨rfl, h1⟩; have HF1 := Lib.hid h1; clear h1)
  go_cut [0] (fun v0 w' => ∃ t : ByteArray, t.size ≤ 100 ∧ v0 = .string t ∧ Hid (Fr (fun _ => False) w w'))
  case first =>
    have hs := Hs.out
    by_cases h5 : s.size ≤ 100
    · go_wp2
      go_meet
      case rel => refine ⟨_, ?_, rfl, HF1⟩; (first | omega | (rw [ByteArray.size_extract]; omega))
    · go_wp2
      go_meet
      case rel => refine ⟨_, ?_, rfl, HF1⟩; (first | omega | (rw [ByteArray.size_extract]; omega))
  obtain ⟨t, htl, rfl, HFc⟩ := hcut
  clear HF1
  obtain ⟨M, hM⟩ : ∃ M, t.data.toList = M := ⟨_, rfl⟩
  obtain rfl : t = ⟨M.toArray⟩ := by rw [← hM]
  replace htl : M.length ≤ 1000000000 := by have : M.length ≤ 100 := by simpa [ByteArray.size] using htl
                                            omega
  have hdn := dec_new M wc htl
  have hrd := fun W => refd_read M W htl
  obtain ⟨x0, hx0⟩ : ∃ x, Rc.D.read M = x := ⟨_, rfl⟩
  rw [hx0] at hdn
  simp only [hx0] at hrd
  unfold dV dC at hrd
  have Hdn := Lib.hid hdn
  have Hrd := Lib.hid hrd
  clear hM htl hdn hrd hx0
  go_upto_region 5 with (first | (go_at_call 24; refine Hdn.out.mono ?_; rintro r w2 ⟨rfl, h1, hg, h2⟩; have HE2 := Lib.hid h1; have HG2 := Lib.hid hg; have HF2 := Lib.hid (HFc.out.trans h2 (fun _ h => .inl h)); have Hz2 := Lib.hid HFc.out.size; clear h1 h2 hg) | (go_at_call 31; refine (Hrd.out _).mono ?_; rintro r w3 ⟨rfl, h2⟩; have HE3 := Lib.hid (HE2.out.keep h2 (fun h => h)); have HF3 := Lib.hid (HF2.out.trans h2 (fun _ h => .inl h)); clear h2))
  go_upto_region 6 with fail
  have hst : ∃ W pd bm bp bq, (((w3.alloc (.cells (dC x0) 58)).alloc (.cells (arr P0) 32)).alloc (.cells (arr64 P0) 33)) = W ∧ wc.heap.size = pd ∧ w3.heap.size = bm ∧ w3.heap.size + 1 = bp ∧ w3.heap.size + 1 + 1 = bq ∧
      DeSt w W pd bp bq bm x0 x0 P0 P0 := by
    have hf : Fr (fun _ => False) w3 (((w3.alloc (.cells (dC x0) 58)).alloc (.cells (arr P0) 32)).alloc (.cells (arr64 P0) 33)) := (((Fr.refl _ _).alloc _).alloc _).alloc _
    have s1 : (w3.alloc (.cells (dC x0) 58)).heap.size = w3.heap.size + 1 := by simp
    have s2 : ((w3.alloc (.cells (dC x0) 58)).alloc (.cells (arr P0) 32)).heap.size = w3.heap.size + 1 + 1 := by simp
    have n1 := heap_alloc_new (w3.alloc (.cells (dC x0) 58)) (.cells (arr P0) 32)
    have n2 := heap_alloc_new ((w3.alloc (.cells (dC x0) 58)).alloc (.cells (arr P0) 32)) (.cells (arr64 P0) 33)
    rw [s1] at n1
    rw [s2] at n2
    have z3 := HF3.out.size
    exact ⟨_, _, _, _, _, rfl, rfl, rfl, rfl, rfl, ⟨HE3.out.keep hf (fun h => h), HG2.out, block_alloc n1, n2, block_alloc (block_alloc (heap_alloc_new w3 _)), HF3.out.trans hf (fun _ h => .inl h), Hz2.out, by omega, by omega, by omega⟩⟩
  obtain ⟨W, pd, bm, bp, bq, hW, h1, h2, h3, h4, hst⟩ := hst
  unfold dC at hW
  rw [show (#[.int .u16 1024, .int .u16 1024, .int .u16 1024, .int .u16 1024] : Array Value) = arr P0 by rw [HP0.out]; rfl, show (#[.int .u64 1024, .int .u64 1024, .int .u64 1024, .int .u64 1024] : Array Value) = arr64 P0 by rw [HP0.out]; rfl, hW, h1, h4, h3, h2]
  have Hst := Lib.hid hst
  clear hst hW h1 h2 h3 h4 HE2 HG2 HF2 Hz2 HE3 HF3 Hdn Hrd HFc Hs
  go_upto_block 0 with fail
  go_cut [9] (fun _ wr => ∃ d ps, Hid (DeSt w wr pd bp bq bm d d ps ps))
  case first =>
    go_wp2
    go_loopw [9] (fun v9 wr => ∃ (i : Nat) (d : Rc.D) (ps : List Nat), i ≤ len ∧ i ≤ 80 ∧ v9 = .int .i64 (i : Int) ∧ Hid (Rc.Ps ps) ∧ Hid (DeSt w wr pd bp bq bm d d ps ps)) (fun v9 _ => 80 - (intOf v9).toNat)
    case atStart => exact ⟨0, _, _, Nat.zero_le _, by omega, rfl, HP, Hst.out⟩
    case round =>
      obtain ⟨i, d, ps, hi, hi2, rfl, HPp, HS⟩ := hrel
      clear Hst
      by_cases hlt : i < len ∧ i < 80
      · obtain ⟨hl1, hl2⟩ := hlt
        obtain ⟨b, off, rfl, hx⟩ := Hat.out i hl1
        obtain ⟨c0, c1, c2, c3, c4⟩ := hx.keep HS.out.fr
        have hok := Hf.out i
        clear hx
        generalize f i = x at *
        obtain ⟨a, wh, y, n, t⟩ := x
        have b1 := hok.what
        have b2 := hok.which
        have b4 := hok.n
        have b5 := hok.total
        dsimp only at c0 c1 c2 c3 c4 b1 b2 b4 b5
        have hii : (i : Int) < 80 := by omega
        have hll : (i : Int) < (len : Int) := by omega
        clear hok
        have hxb := heap_alloc_new wr (.cells #[.int .u8 (a : Int), .int .u8 (wh : Int), .int .u32 (y : Int), .int .u8 (n : Int), .int .u16 (t : Int)] 36)
        have HSx := Lib.hid (HS.out.fresh ((Fr.refl _ wr).alloc (.cells #[.int .u8 (a : Int), .int .u8 (wh : Int), .int .u32 (y : Int), .int .u8 (n : Int), .int .u16 (t : Int)] 36)))
        go_upto_region 10 with fail
        obtain ⟨X, hX⟩ : ∃ X, wr.alloc (.cells #[.int .u8 (a : Int), .int .u8 (wh : Int), .int .u32 (y : Int), .int .u8 (n : Int), .int .u16 (t : Int)] 36) = X := ⟨_, rfl⟩
        obtain ⟨xb, hb⟩ : ∃ xb, wr.heap.size = xb := ⟨_, rfl⟩
        rw [hX] at HSx hxb ⊢
        rw [hb] at hxb ⊢
        clear HS hX hb c0 c1 c2 c3 c4
        have c0 : X.cell? ⟨xb, 0, none⟩ = some (.int .u8 (a : Int)) := (cell_of hxb 0).trans rfl
        have c1 : X.cell? ⟨xb, 1, none⟩ = some (.int .u8 (wh : Int)) := (cell_of hxb 1).trans rfl
        have c3 : X.cell? ⟨xb, 3, none⟩ = some (.int .u8 (n : Int)) := (cell_of hxb 3).trans rfl
        have c4 : X.cell? ⟨xb, 4, none⟩ = some (.int .u16 (t : Int)) := (cell_of hxb 4).trans rfl
        have Hxb := Lib.hid hxb
        clear hxb
        go_upto_block 2 with fail
        go_cut [11, 12, 13, 14, 15, 16, 17, 18] from 34 to 156 (fun _ _ _ _ _ _ _ _ wx => ∃ d' ps', Hid (Rc.Ps ps') ∧ Hid (DeSt w wx pd bp bq bm d' d' ps' ps'))
        case first =>
          by_cases hk3 : a % 5 = 3
          · have t3 : ((a : Int) % 5 == 3) = true := by simp; omega
            obtain ⟨K, hK⟩ : ∃ K, n % 33 = K := ⟨_, rfl⟩
            have hKi : (n : Int) % 33 = (K : Int) := by omega
            have hK32 : K ≤ 32 := by omega
            have hK32i : (K : Int) ≤ 32 := by omega
            clear hk3 hK
            go_wp2
            rw [hKi]
            clear hKi
            go_loopw [12, 13] (fun v12 v13 wr => ∃ (j v : Nat) (x : Rc.D), j ≤ K ∧ v13 = .int .i64 (j : Int) ∧ v12 = .int .u64 (v : Int) ∧ Hid (x.directs (K - j) v = d.directs K 0) ∧ Hid (v < 2 ^ j) ∧ Hid (DecG x) ∧ Hid (DeSt w wr pd bp bq bm d x ps ps)) (fun _ v13 _ => K - (intOf v13).toNat)
            case atStart => exact ⟨0, 0, d, Nat.zero_le _, rfl, rfl, rfl, by show 0 < 2 ^ 0; decide, HSx.out.g, HSx.out⟩
            case round =>
              obtain ⟨j, v, x, hj, rfl, rfl, hd, hv, HG, HS2⟩ := hrel
              clear c0 c1 c3 c4
              by_cases hjk : j < K
              · have hd2 := refd_direct x wr HG.out
                have hbb : x.direct.1 < 2 := by unfold Rc.D.direct; split <;> simp
                have hnext : Hid (x.direct.2.directs (K - (j + 1)) (v * 2 + x.direct.1) = d.directs K 0) := by
                  rw [← hd.out, show K - j = (K - (j + 1)) + 1 by omega]; rfl
                have hG' : Hid (DecG x.direct.2) := HG.out.direct
                have hv' : Hid (v * 2 + x.direct.1 < 2 ^ (j + 1)) := by have := hv.out; show _ < _; rw [Nat.pow_succ]; omega
                have hv32 : v < 4294967296 := by
                  have h := hv.out
                  have h4 : 2 ^ j ≤ 2 ^ 32 := Nat.pow_le_pow_right (by decide) (by omega)
                  omega
                obtain ⟨z, hz⟩ : ∃ z, x.direct.2 = z := ⟨_, rfl⟩
                obtain ⟨bb, hbb2⟩ : ∃ z, x.direct.1 = z := ⟨_, rfl⟩
                rw [hz, hbb2] at hd2 hnext
                rw [hz] at hG'
                rw [hbb2] at hv' hbb
                unfold dV dC at hd2
                have Hd2 := Lib.hid hd2
                have hw1 : IntKind.u64.wrap (bb : Int) = (bb : Int) := IntWalk.u64_in _ (by omega)
                have hv32i : (v : Int) < 4294967296 := by omega
                have hbi : (bb : Int) < 2 := by omega
                have Hb := Lib.hid (And.intro hv32i hbi)
                have hm := HS2.out.hm
                have m0 : wr.cell? ⟨bm, 0, none⟩ = some (.string ⟨x.rest.toArray⟩) := (cell_of hm 0).trans rfl
                have m1 : wr.cell? ⟨bm, 1, none⟩ = some (.int .u64 (x.code : Int)) := (cell_of hm 1).trans rfl
                have m2 : wr.cell? ⟨bm, 2, none⟩ = some (.int .u64 (x.size : Int)) := (cell_of hm 2).trans rfl
                have m3 : wr.cell? ⟨bm, 3, none⟩ = some (.bool x.bad) := (cell_of hm 3).trans rfl
                clear hm hd hv hd2 hz hbb2 hbb hv32 hv32i hbi
                go_upto_region 23 with fail
                obtain ⟨hv32i, hbi⟩ := Hb.out
                go_wp2_with (go_at_call 32; refine Hd2.out.mono ?_; rintro r5 w6 ⟨rfl, h2⟩; have hb6 := h2.keep HS2.out.hm (fun h => h); have HS6 := Lib.hid (HS2.out.mset h2 z); have k0 : w6.cell? ⟨bm, 0, none⟩ = some (.string ⟨x.rest.toArray⟩) := (cell_of hb6 0).trans rfl; have k1 : w6.cell? ⟨bm, 1, none⟩ = some (.int .u64 (x.code : Int)) := (cell_of hb6 1).trans rfl; have k2 : w6.cell? ⟨bm, 2, none⟩ = some (.int .u64 (x.size : Int)) := (cell_of hb6 2).trans rfl; have k3 : w6.cell? ⟨bm, 3, none⟩ = some (.bool x.bad) := (cell_of hb6 3).trans rfl; have kf0 := free_of hb6 0; have kf1 := free_of hb6 1; have kf2 := free_of hb6 2; have kf3 := free_of hb6 3; clear h2 hb6)
                go_roundw
                case rel => exact ⟨j + 1, v * 2 + bb, z, by omega, by go_num, by go_num, hnext, hv', hG', HS6.out⟩
                case measure => simp [intOf]; omega
              · obtain rfl : j = K := by omega
                have hfin : (v, x) = d.directs j 0 := by have := hd.out; rw [Nat.sub_self] at this; exact this
                have hdd := dec_direct pd d j wr HS2.out.dec HS2.out.g hK32
                rw [← hfin] at hdd
                dsimp only at hdd
                have hv32 : v < 4294967296 := by
                  have h := hv.out
                  have h4 : 2 ^ j ≤ 2 ^ 32 := Nat.pow_le_pow_right (by decide) (by omega)
                  omega
                have hw1 : IntKind.u64.wrap (v : Int) = (v : Int) := IntWalk.u64_in _ (by omega)
                have hv32i : (v : Int) < 4294967296 := by omega
                have Hdd := Lib.hid hdd
                clear hd hv hfin hdd hjk hv32
                go_wp2_with (go_at_call 25; refine Hdd.out.mono ?_; rintro r5 w6 ⟨rfl, h1, hg, h2⟩; have HS6 := Lib.hid (HS2.out.dop h1 hg h2); clear h1 hg h2)
                go_meet
                exact ⟨x, ps, HPp, HS6.out⟩
          · by_cases hk4 : a % 5 = 4
            · have t3 : ((a : Int) % 5 == 3) = false := by simp; omega
              have t4 : ((a : Int) % 5 == 4) = true := by simp; omega
              obtain ⟨T, hT⟩ : ∃ T, 1 + t = T := ⟨_, rfl⟩
              have hTi : 1 + (t : Int) = (T : Int) := by omega
              have hT1 : 1 ≤ T := by omega
              have hT2 : T ≤ 16777216 := by omega
              have hT2i : (T : Int) ≤ 65536 := by omega
              have hq1 : 1 ≤ d.size / T := (Nat.le_div_iff_mul_le hT1).2 (by have := HSx.out.g.lo; omega)
              have hq2 : d.size / T < 4294967296 := Nat.lt_of_le_of_lt (Nat.div_le_self _ _) HSx.out.g.hi
              have hw0 := dec_where pd d T X HSx.out.dec HSx.out.g hT1 hT2
              have hrw0 := fun W => refd_where d T W HSx.out.g hT1 hT2
              have hg1 := HSx.out.g.where_ T
              have hVT : (d.where_ T).1 < T := by unfold Rc.D.where_; dsimp only; omega
              have hp1 : (d.where_ T).2.part = d.size / T := rfl
              have hg2 : DecG ((d.where_ T).2.take (d.where_ T).1 1) := hg1.take (by rw [hp1]; omega) (by rw [hp1]; omega)
              have htk := fun W h => dec_take pd (d.where_ T).2 (d.where_ T).1 1 W h hg1.len (by rw [hp1]; omega) (by rw [hp1]; omega) hg1.part (by omega) (by decide)
              have hrt : ∀ W, Calls Try.prog 34 #[dV d, .int .u64 ((d.where_ T).1 : Int), .int .u64 ((1 : Nat) : Int), .int .u64 (T : Int)] W fun r w' => r = .returned (dV ((d.where_ T).2.take (d.where_ T).1 1)) ∧ Fr (fun _ => False) W w' :=
                fun W => refd_take (d.where_ T).2 (d.where_ T).1 1 T W hg1 rfl hT1 hT2 (by rw [hp1]; omega) (by rw [hp1]; omega) (by omega) (by decide)
              obtain ⟨V, hV⟩ : ∃ V, (d.where_ T).1 = V := ⟨_, rfl⟩
              obtain ⟨d1, hd1⟩ : ∃ V : Rc.D, (d.where_ T).2 = V := ⟨_, rfl⟩
              rw [hV] at hw0 hVT hg2 htk hrt
              rw [hd1] at hw0 hg1 hg2 htk hrt
              simp only [hV] at hrw0
              obtain ⟨d2, hd2⟩ : ∃ z : Rc.D, d1.take V 1 = z := ⟨_, rfl⟩
              rw [hd2] at hg2 hrt
              simp only [hd2] at htk
              unfold dV dC at hrw0 hrt
              rw [show ((1 : Nat) : Int) = 1 from rfl] at hrt
              simp only [show ((1 : Nat) : Int) = 1 from rfl] at htk
              have Hw0 := Lib.hid hw0
              have Hrw0 := Lib.hid hrw0
              have Hg1 := Lib.hid hg1
              have Hg2 := Lib.hid hg2
              have Htk := Lib.hid htk
              have Hrt := Lib.hid hrt
              have hVi : (V : Int) < (T : Int) := by omega
              have hVd : decide ((T : Int) ≤ (V : Int)) = false := by simp; omega
              have hVd2 : decide (T ≤ V) = false := by simp; omega
              have e1 : IntKind.u64.wrap (V : Int) = (V : Int) := IntWalk.u64_in _ (by omega)
              have e2 : IntKind.u64.wrap (T : Int) = (T : Int) := IntWalk.u64_in _ (by omega)
              clear hk3 hk4 hT hT1 hT2 hq1 hq2 hw0 hrw0 hg1 hVT hp1 hg2 htk hrt hV hd1 hd2 c0 c1 c3
              go_wp2_with (first | (go_at_call 26; refine Hw0.out.mono ?_; rintro r5 w4 ⟨rfl, h1, h2⟩; have HS4 := Lib.hid (HSx.out.dop h1 Hg1.out h2); have hm := HS4.out.hm; have m0 : w4.cell? ⟨bm, 0, none⟩ = some (.string ⟨d.rest.toArray⟩) := (cell_of hm 0).trans rfl; have m1 : w4.cell? ⟨bm, 1, none⟩ = some (.int .u64 (d.code : Int)) := (cell_of hm 1).trans rfl; have m2 : w4.cell? ⟨bm, 2, none⟩ = some (.int .u64 (d.size : Int)) := (cell_of hm 2).trans rfl; have m3 : w4.cell? ⟨bm, 3, none⟩ = some (.bool d.bad) := (cell_of hm 3).trans rfl; clear h1 h2 hm) | (go_at_call 33; refine (Hrw0.out _).mono ?_; rintro r5 w5 ⟨rfl, h2⟩; have HS5 := Lib.hid (HS4.out.fresh h2); clear h2) | (go_at_call 27; refine (Htk.out _ HS5.out.dec).mono ?_; rintro r5 w6 ⟨rfl, h1, h2⟩; have HS6 := Lib.hid (HS5.out.dop h1 Hg2.out h2); have hm := HS6.out.hm; have n0 : w6.cell? ⟨bm, 0, none⟩ = some (.string ⟨d.rest.toArray⟩) := (cell_of hm 0).trans rfl; have n1 : w6.cell? ⟨bm, 1, none⟩ = some (.int .u64 (d.code : Int)) := (cell_of hm 1).trans rfl; have n2 : w6.cell? ⟨bm, 2, none⟩ = some (.int .u64 (d.size : Int)) := (cell_of hm 2).trans rfl; have n3 : w6.cell? ⟨bm, 3, none⟩ = some (.bool d.bad) := (cell_of hm 3).trans rfl; clear h1 h2 hm) | (go_at_call 34; refine (Hrt.out _).mono ?_; rintro r5 w7 ⟨rfl, h2⟩; have hb7 := h2.keep HS6.out.hm (fun h => h); have HS7 := Lib.hid (HS6.out.mset h2 d2); have k0 : w7.cell? ⟨bm, 0, none⟩ = some (.string ⟨d.rest.toArray⟩) := (cell_of hb7 0).trans rfl; have k1 : w7.cell? ⟨bm, 1, none⟩ = some (.int .u64 (d.code : Int)) := (cell_of hb7 1).trans rfl; have k2 : w7.cell? ⟨bm, 2, none⟩ = some (.int .u64 (d.size : Int)) := (cell_of hb7 2).trans rfl; have k3 : w7.cell? ⟨bm, 3, none⟩ = some (.bool d.bad) := (cell_of hb7 3).trans rfl; have kf0 := free_of hb7 0; have kf1 := free_of hb7 1; have kf2 := free_of hb7 2; have kf3 := free_of hb7 3; clear h2 hb7))
              go_meet
              exact ⟨d2, ps, HPp, HS7.out⟩
            · have t3 : ((a : Int) % 5 == 3) = false := by simp; omega
              have t4 : ((a : Int) % 5 == 4) = false := by simp; omega
              obtain ⟨k, hk⟩ : ∃ k, wh % 4 = k := ⟨_, rfl⟩
              have hki : (wh : Int) % 4 = (k : Int) := by omega
              have hk4l : k < 4 := by omega
              have hk4i : (k : Int) < 4 := by omega
              have hk0i : (0 : Int) ≤ (k : Int) := by omega
              have hpr := HPp.out.ok _ hk4l
              obtain ⟨P, hP⟩ : ∃ P, ps.getD k 0 = P := ⟨_, rfl⟩
              rw [hP] at hpr
              have hcq : X.cell? ⟨bq, k, none⟩ = some (.int .u64 (P : Int)) := by rw [← hP]; exact (cell_of HSx.out.hq _).trans (arr64_get HPp.out hk4l)
              have hb0 := refd_bit d P X.drew HSx.out.g hpr
              have hg2 := HSx.out.g.bit hpr
              have hlr := hpr.learn (d.bit P).1
              obtain ⟨Y, hY⟩ : ∃ Y, (d.bit P).1 = Y := ⟨_, rfl⟩
              obtain ⟨d2, hd2⟩ : ∃ Y, (d.bit P).2 = Y := ⟨_, rfl⟩
              obtain ⟨P', hP'⟩ : ∃ P', Rc.learn P Y = P' := ⟨_, rfl⟩
              rw [hY, hd2, hP'] at hb0
              rw [hd2] at hg2
              rw [hY, hP'] at hlr
              unfold dV dC at hb0
              have Hb0 := Lib.hid hb0
              have Hg2 := Lib.hid hg2
              have HPset : Hid (Rc.Ps (ps.set k P')) := HPp.out.set k P' hlr
              have hP2 : P' ≤ 2048 := by have := hlr.2; omega
              have hw1 : IntKind.u64.wrap (P' : Int) = (P' : Int) := IntWalk.u64_in _ (by omega)
              have Hk4 := Lib.hid hk4l
              have Hpr := Lib.hid hpr
              have HPd := Lib.hid hP
              have HYd := Lib.hid hY
              have Hd2 := Lib.hid hd2
              have HP' := Lib.hid hP'
              have hm := HSx.out.hm
              have m0 : X.cell? ⟨bm, 0, none⟩ = some (.string ⟨d.rest.toArray⟩) := (cell_of hm 0).trans rfl
              have m1 : X.cell? ⟨bm, 1, none⟩ = some (.int .u64 (d.code : Int)) := (cell_of hm 1).trans rfl
              have m2 : X.cell? ⟨bm, 2, none⟩ = some (.int .u64 (d.size : Int)) := (cell_of hm 2).trans rfl
              have m3 : X.cell? ⟨bm, 3, none⟩ = some (.bool d.bad) := (cell_of hm 3).trans rfl
              clear hm hk3 hk4 hk hk4l hpr hP hb0 hg2 hlr hY hd2 hP' hP2 c0 c3 c4
              have hqm := ne_of_ty HSx.out.hq HSx.out.hm (by decide)
              have hmq := Ne.symm hqm
              go_upto_region 13 with fail
              try rw [hki]
              go_cut [18] from 34 to 156 (fun v18 wx => v18 = .int .i64 (Y : Int) ∧ Hid (DeSt w wx pd bp bq bm d d2 ps (ps.set k P')))
              case first =>
                go_region_with (go_at_call 35; refine Hb0.out.mono ?_; rintro r5 w6 ⟨rfl, h2⟩; have hb6 := h2.keep (a := X.drew) HSx.out.hm (fun h => h); have hq6 := h2.keep (a := X.drew) HSx.out.hq (fun h => h); have HS6 := Lib.hid ((HSx.out.mset ((Fr.refl _ _).drew.trans h2 (fun _ h => .inl h)) d2).qset k P'); have kq : w6.cell? ⟨bq, k, none⟩ = some (.int .u64 (P : Int)) := (by rw [← HPd.out]; exact (cell_of hq6 _).trans (arr64_get HPp.out Hk4.out)); have kfq := free_of hq6 k; have k0 : w6.cell? ⟨bm, 0, none⟩ = some (.string ⟨d.rest.toArray⟩) := (cell_of hb6 0).trans rfl; have k1 : w6.cell? ⟨bm, 1, none⟩ = some (.int .u64 (d.code : Int)) := (cell_of hb6 1).trans rfl; have k2 : w6.cell? ⟨bm, 2, none⟩ = some (.int .u64 (d.size : Int)) := (cell_of hb6 2).trans rfl; have k3 : w6.cell? ⟨bm, 3, none⟩ = some (.bool d.bad) := (cell_of hb6 3).trans rfl; have kf0 := free_of hb6 0; have kf1 := free_of hb6 1; have kf2 := free_of hb6 2; have kf3 := free_of hb6 3; clear h2 hb6 hq6)
                all_goals go_wp2
                all_goals go_meet
                all_goals exact ⟨rfl, HS6⟩
              case rest =>
                obtain ⟨rfl, HS6⟩ := hcut
                have h6 := HS6.out.fresh (Fr.refl _ _).drew
                have hcp : wc.drew.cell? ⟨bp, k, none⟩ = some (.int .u16 (P : Int)) := by rw [← HPd.out]; exact (cell_of h6.hp _).trans (arr_get HPp.out Hk4.out)
                have hdb := dec_bit pd d bp k P wc.drew h6.dec h6.g Hpr.out hcp (free_of h6.hp _) (ne_of_ty h6.hp h6.dec.blk (by decide))
                rw [HYd.out, Hd2.out, HP'.out] at hdb
                have Hdb := Lib.hid hdb
                have H6 := Lib.hid h6
                clear h6 hcp hdb m0 m1 m2 m3 hcq
                go_upto_region 14 with fail
                go_region_with (go_at_call 28; refine Hdb.out.mono ?_; rintro r5 w7 ⟨rfl, h1, h2⟩; have HS7 := Lib.hid (H6.out.pset k P' h1 Hg2.out h2); have p7 : w7.cell? ⟨bp, k, none⟩ = some (.int .u16 (P' : Int)) := (cell_of HS7.out.hp _).trans (arr_set_get HPp.out.len Hk4.out P').1; have q7 : w7.cell? ⟨bq, k, none⟩ = some (.int .u64 (P' : Int)) := (cell_of HS7.out.hq _).trans (arr_set_get HPp.out.len Hk4.out P').2; clear h1 h2)
                all_goals go_wp2
                all_goals go_meet
                all_goals exact ⟨d2, _, HPset, HS7⟩
        case rest =>
          obtain ⟨d2, ps2, HPn, HSn⟩ := hcut
          have hm := HSn.out.hm
          have m0 : wc.cell? ⟨bm, 0, none⟩ = some (.string ⟨d2.rest.toArray⟩) := (cell_of hm 0).trans rfl
          have m1 : wc.cell? ⟨bm, 1, none⟩ = some (.int .u64 (d2.code : Int)) := (cell_of hm 1).trans rfl
          have m2 : wc.cell? ⟨bm, 2, none⟩ = some (.int .u64 (d2.size : Int)) := (cell_of hm 2).trans rfl
          have m3 : wc.cell? ⟨bm, 3, none⟩ = some (.bool d2.bad) := (cell_of hm 3).trans rfl
          have hbad : ∀ n, Calls Try.prog 29 #[.pointer (some ⟨pd, 0, none⟩)] (wc.drewN n) fun e w' => e = .returned (.bool d2.bad) ∧ w' = wc.drewN n := fun n => (dec_bad pd d2 _ (HSn.out.dec.drewN n)).mono (fun _ _ h => ⟨h.1, h.2.symm⟩)
          have hdone : ∀ n, Calls Try.prog 30 #[.pointer (some ⟨pd, 0, none⟩)] (wc.drewN n) fun e w' => e = .returned (.bool d2.done) ∧ w' = wc.drewN n := fun n => (dec_done pd d2 _ (HSn.out.dec.drewN n)).mono (fun _ _ h => ⟨h.1, h.2.symm⟩)
          obtain ⟨S, hS⟩ : ∃ S, ByteArray.mk d2.rest.toArray = S := ⟨_, rfl⟩
          have hSz : S.size = d2.rest.length := by rw [← hS]; simp [ByteArray.size]
          rw [hS] at m0
          have Hbad := Lib.hid hbad
          clear hm hbad c0 c1 c3 c4
          go_upto_region 34 with fail
          clear hlen
          by_cases h0 : d2.rest = []
          · have hz : S.size = 0 := by rw [hSz, h0]; rfl
            by_cases hc0 : d2.code = 0
            · have hdn : d2.done = true := by unfold Rc.D.done; rw [h0, hc0]; rfl
              rw [hdn] at hdone
              have hci : ((d2.code : Int) == 0) = true := by rw [hc0]; rfl
              have hzi : ((S.size : Int) == 0) = true := by rw [hz]; rfl
              have Hdone := Lib.hid hdone
              clear hdn hdone hS hSz h0 hc0
              go_quiet ((first | (go_at_call 29; exact Calls.quiet_of_same (Hbad.out _)) | (go_at_call 30; exact Calls.quiet_of_same (Hdone.out _))))
              go_wp2
              go_roundw
              case rel => exact ⟨i + 1, d2, ps2, hl1, by omega, by go_num, HPn, HSn.out.fresh ((Fr.refl _ _).drewN _)⟩
              case measure => simp [intOf]; omega
            · have hdn : d2.done = false := by unfold Rc.D.done; simp [hc0]
              rw [hdn] at hdone
              have hci : ((d2.code : Int) == 0) = false := beq_eq_false_iff_ne.2 (by omega)
              have hci2 : (d2.code == 0) = false := beq_eq_false_iff_ne.2 hc0
              have hzi : ((S.size : Int) == 0) = true := by rw [hz]; rfl
              have Hdone := Lib.hid hdone
              clear hdn hdone hS hSz h0 hc0
              go_quiet ((first | (go_at_call 29; exact Calls.quiet_of_same (Hbad.out _)) | (go_at_call 30; exact Calls.quiet_of_same (Hdone.out _))))
              go_wp2
              go_roundw
              case rel => exact ⟨i + 1, d2, ps2, hl1, by omega, by go_num, HPn, HSn.out.fresh ((Fr.refl _ _).drewN _)⟩
              case measure => simp [intOf]; omega
          · have hne : S.size ≠ 0 := by rw [hSz]; intro e; exact h0 (List.eq_nil_of_length_eq_zero e)
            have hdn : d2.done = false := by unfold Rc.D.done; cases hr : d2.rest with
              | nil => exact absurd hr h0
              | cons _ _ => rfl
            rw [hdn] at hdone
            have hzi : ((S.size : Int) == 0) = false := beq_eq_false_iff_ne.2 (by omega)
            have hzi2 : (S.size == 0) = false := beq_eq_false_iff_ne.2 hne
            have Hdone := Lib.hid hdone
            clear hdn hdone hS hSz h0 hne
            go_quiet ((first | (go_at_call 29; exact Calls.quiet_of_same (Hbad.out _)) | (go_at_call 30; exact Calls.quiet_of_same (Hdone.out _))))
            go_wp2
            go_roundw
            case rel => exact ⟨i + 1, d2, ps2, hl1, by omega, by go_num, HPn, HSn.out.fresh ((Fr.refl _ _).drewN _)⟩
            case measure => simp [intOf]; omega
      · by_cases hl : i < len
        · have hl' : decide (i < len) = true := by simpa using hl
          have h80 : decide ((i : Int) < 80) = false := by simp; omega
          clear hlt hi hi2 hl
          go_wp2
          go_meet
          exact ⟨d, ps, HS⟩
        · have hl' : decide (i < len) = false := by simpa using hl
          clear hlt hi hi2 hl
          go_wp2
          go_meet
          exact ⟨d, ps, HS⟩
  case rest =>
    obtain ⟨d, ps, HS⟩ := hcut
    clear Hst
    have hp := HS.out.hp
    have Hfr := Lib.hid HS.out.fr
    clear HS
    go_wp2_with (first | (go_at_call 27; refine (dec_take_nil _ _ _).mono ?_; rintro r w1 ⟨rfl, rfl⟩) | (go_at_call 20; refine (enc_bit_nil _ _ _).mono ?_; rintro r w1 ⟨rfl, rfl⟩) | (go_at_call 15; refine (enc_direct_nil _ _ _).mono ?_; rintro r w1 ⟨rfl, rfl⟩) | (go_at_call 18; refine (enc_part_nil _ _ _ _).mono ?_; rintro r w1 ⟨rfl, rfl⟩) | (go_at_call 28; refine (dec_bit_nil _ _).mono ?_; rintro r w1 ⟨rfl, rfl⟩) | (go_at_call 25; refine (dec_direct_nil _ _).mono ?_; rintro r w1 ⟨rfl, rfl⟩) | (go_at_call 26; refine (dec_where_nil _ _).mono ?_; rintro r w1 ⟨rfl, rfl⟩) | (go_at_call 30; refine (dec_done_nil _).mono ?_; rintro r w1 ⟨rfl, rfl⟩) | (go_at_call 29; refine (dec_bad_nil _).mono ?_; rintro r w1 ⟨rfl, rfl⟩) | (go_at_call 22; refine (enc_end_nil _).mono ?_; rintro r w1 ⟨rfl, rfl⟩))
    go_ret
    exact ⟨rfl, Hfr.out⟩
end Go.Proofs.Ytpddocehjljofaa
