/- RcEncodes: the walk of the law. -/
import Derived.Test.YtpddocehjljofaaRe
namespace Go.Proofs.Ytpddocehjljofaa
open Go.RowKit Go.My

theorem and1_i64 (a : Nat) (ha : a < 4294967296) : Go.bits .and .i64 (a : Int) 1 = ((a % 2 : Nat) : Int) := by
  have h := (bits_nat .i64 32 (by decide) (fun n h0 h1 => IntWalk.i64_in n (by omega)) a 1 ha (by decide)).1
  rw [show ((1 : Nat) : Int) = 1 from rfl] at h
  rw [h, Nat.and_one_is_mod]

theorem arr_set_get {ps : List Nat} (hl : ps.length = 4) {k : Nat} (hk : k < 4) (y : Nat) : (arr (ps.set k y))[k]? = some (.int .u16 (y : Int)) ∧ (arr64 (ps.set k y))[k]? = some (.int .u64 (y : Int)) := by
  have h : (ps.set k y)[k]? = some y := List.getElem?_set_self (by omega)
  constructor
  · unfold arr; rw [List.getElem?_toArray, List.getElem?_map, h]; rfl
  · unfold arr64; rw [List.getElem?_toArray, List.getElem?_map, h]; rfl

/-- Both ends tell the same bytes. -/
theorem both_ends {w wc : World} {pe bp bq bm : Nat} {v u0 u1 : Value} {ops : List Rc.Op} {ps qs : List Nat} (h : ReSt w wc pe bp bq bm v ops ps (.agg #[u0, u1]) (Rc.A.start.run ops) qs) (hl : ops.length ≤ 10000) :
    ∃ S : ByteArray, (∀ W, Fr (fun _ => False) wc W → Calls Try.prog 22 #[.pointer (some ⟨pe, 0, none⟩)] W fun r w' => r = .returned (.string S) ∧ Fr (fun _ => False) W w') ∧
      (∀ W, Fr (fun _ => False) wc W → Calls Try.prog 23 #[.agg #[u0, u1]] W fun r w' => r = .returned (.string S) ∧ Fr (fun _ => False) W w') := by
  refine ⟨_, fun W hW => end_ops pe v ops W (h.enc.keep hW (fun _ _ h => h)) (by omega), fun W hW => ref_end _ (Rc.A.start.run ops) (Rc.E.start.run ops) W (h.ra.keep hW) ?_ h.enc.rel⟩
  have := run_k Rc.A.start ops
  have h0 : Rc.A.start.k = 0 := rfl
  omega

set_option maxHeartbeats 8000000 in
set_option maxRecDepth 100000 in
theorem rcEncodes_walk (f : Nat → Rc.Stp) (hf : ∀ i, (f i).Ok) (A : Option Addr) (len cap : Nat) (hlen : len ≤ 9223372036854775807) (w : World)
    (hat : ∀ i, i < len → ∃ b off, A = some ⟨b, off, none⟩ ∧ StpAt w b (off + i * 5) (f i)) :
    Calls Try.prog 3 #[.slice A len cap] w fun r w' => r = .returned (.bool true) ∧ Fr (fun _ => False) w w' := by
  obtain ⟨P0, hP0⟩ : ∃ P0, P0 = [1024, 1024, 1024, 1024] := ⟨_, rfl⟩
  have hPs : Rc.Ps P0 := by rw [hP0]; exact Rc.Ps.start
  have Hat := Lib.hid hat
  have Hf := Lib.hid hf
  have HP := Lib.hid hPs
  have HP0 := Lib.hid hP0
  clear hat hf hPs hP0
  go_enter Try.func3, Try.ntmps3
  go_upto_region 3 with (go_at_call 12; refine (speaks03 _).mono ?_; rintro r w1 ⟨rfl, h1⟩; have HF1 := Lib.hid h1; clear h1)
  go_upto_region 4 with (first | (go_at_call 13; refine (enc_new _).mono ?_; rintro r w2 ⟨rfl, h1, h2⟩; have HE2 := Lib.hid h1; have HF2 := Lib.hid (HF1.out.trans h2 (fun _ h => .inl h)); have Hl2 := Lib.hid HF1.out.size; clear h1 h2) | (go_at_call 14; refine (ref_new _).mono ?_; rintro r w3 ⟨r0, rfl, h1, h2, h3⟩; obtain ⟨x0, cap0, L0, S0, ho, rfl, hr⟩ := h1.ex; have HR3 := Lib.hid h1; have HE3 := Lib.hid (HE2.out.keep h2 (fun _ _ h => h)); have HF3 := Lib.hid (HF2.out.trans h2 (fun _ h => .inl h)); have Hr3 := Lib.hid h3; have Hlt3 := Lib.hid (lt_of_block HE2.out.at_.blk); have Hz3 := Lib.hid h2.size; clear h1 h2 h3 ho hr))
  go_upto_region 5 with fail
  have hst : ∃ W pe bm bp bq, (((w3.alloc (.cells #[.slice x0 L0.length cap0, .int .u64 (S0 : Int)] 29)).alloc (.cells (arr P0) 32)).alloc (.cells (arr64 P0) 33)) = W ∧ w1.heap.size = pe ∧ w3.heap.size = bm ∧ w3.heap.size + 1 = bp ∧ w3.heap.size + 1 + 1 = bq ∧
      ReSt w W pe bp bq bm (.slice none 0 0) [] P0 (.agg #[.slice x0 L0.length cap0, .int .u64 (S0 : Int)]) Rc.A.start P0 := by
    have hf : Fr (fun _ => False) w3 (((w3.alloc (.cells #[.slice x0 L0.length cap0, .int .u64 (S0 : Int)] 29)).alloc (.cells (arr P0) 32)).alloc (.cells (arr64 P0) 33)) := (((Fr.refl _ _).alloc _).alloc _).alloc _
    have s1 : (w3.alloc (.cells #[.slice x0 L0.length cap0, .int .u64 (S0 : Int)] 29)).heap.size = w3.heap.size + 1 := by simp
    have s2 : ((w3.alloc (.cells #[.slice x0 L0.length cap0, .int .u64 (S0 : Int)] 29)).alloc (.cells (arr P0) 32)).heap.size = w3.heap.size + 1 + 1 := by simp
    have n1 := heap_alloc_new (w3.alloc (.cells #[.slice x0 L0.length cap0, .int .u64 (S0 : Int)] 29)) (.cells (arr P0) 32)
    have n2 := heap_alloc_new ((w3.alloc (.cells #[.slice x0 L0.length cap0, .int .u64 (S0 : Int)] 29)).alloc (.cells (arr P0) 32)) (.cells (arr64 P0) 33)
    rw [s1] at n1
    rw [s2] at n2
    have z3 := Hz3.out
    have l3 := Hlt3.out
    have l2 := Hl2.out
    refine ⟨_, _, _, _, _, rfl, rfl, rfl, rfl, rfl, ⟨HE3.out.keep hf (fun _ _ h => h), block_alloc n1, n2, ⟨_, _, rfl, block_alloc (block_alloc (heap_alloc_new w3 _))⟩, HR3.out.keep hf, fun g hg hfo => ?_, HF3.out.trans hf (fun _ h => .inl h), ?_, by omega, by omega, by omega⟩⟩
    · have := Hr3.out g hg
      rcases hfo with rfl | hfo
      · omega
      · cases hfo
    · rintro k (rfl | hk)
      · exact l2
      · cases hk
  obtain ⟨W, pe, bm, bp, bq, hW, h1, h2, h3, h4, hst⟩ := hst
  rw [show (#[.int .u16 1024, .int .u16 1024, .int .u16 1024, .int .u16 1024] : Array Value) = arr P0 by rw [HP0.out]; rfl, show (#[.int .u64 1024, .int .u64 1024, .int .u64 1024, .int .u64 1024] : Array Value) = arr64 P0 by rw [HP0.out]; rfl, hW, h1, h4, h3, h2]
  have Hst := Lib.hid hst
  clear hst hW h1 h2 h3 h4 HE2 HF2 HF1 Hl2 HR3 HE3 HF3 Hr3 Hlt3 Hz3
  go_upto_block 0 with fail
  go_cut [7] (fun _ wr => ∃ v r ops, Hid (ops = (Rc.opsOf P0 f (min len 80)).1) ∧ Hid (ReSt w wr pe bp bq bm v ops (Rc.opsOf P0 f (min len 80)).2 r (Rc.A.start.run ops) (Rc.opsOf P0 f (min len 80)).2))
  case first =>
    go_wp2
    go_loopw [7] (fun v7 wr => ∃ (i : Nat) (v r : Value), i ≤ len ∧ i ≤ 80 ∧ v7 = .int .i64 (i : Int) ∧ Hid (ReSt w wr pe bp bq bm v (Rc.opsOf P0 f i).1 (Rc.opsOf P0 f i).2 r (Rc.A.start.run (Rc.opsOf P0 f i).1) (Rc.opsOf P0 f i).2)) (fun v7 _ => 80 - (intOf v7).toNat)
    case atStart => exact ⟨0, _, _, Nat.zero_le _, by omega, rfl, Hst.out⟩
    case round =>
      obtain ⟨i, v, r, hi, hi2, rfl, HS⟩ := hrel
      clear Hst
      by_cases hlt : i < len ∧ i < 80
      · obtain ⟨hl1, hl2⟩ := hlt
        obtain ⟨b, off, rfl, hx⟩ := Hat.out i hl1
        obtain ⟨c0, c1, c2, c3, c4⟩ := hx.keep HS.out.fr
        have hok := Hf.out i
        obtain ⟨ops, hops⟩ : ∃ ops, (Rc.opsOf P0 f i).1 = ops := ⟨_, rfl⟩
        obtain ⟨ps, hps⟩ : ∃ ps, (Rc.opsOf P0 f i).2 = ps := ⟨_, rfl⟩
        have hoo := Rc.opsOf_ok HP.out (fun i => Hf.out i) i
        rw [hops, hps] at hoo HS
        obtain ⟨ho1, ho2, ho3⟩ := hoo
        have hnx : Rc.opsOf P0 f (i + 1) = (ops ++ (Rc.stepOps ps (f i)).1, (Rc.stepOps ps (f i)).2) := by simp only [Rc.opsOf]; rw [hops, hps]
        have Hnx := Lib.hid hnx
        clear hnx hops hps hx
        generalize f i = x at *
        obtain ⟨a, wh, y, n, t⟩ := x
        have b1 := hok.what
        have b2 := hok.which
        have b3 := hok.v
        have b4 := hok.n
        have b5 := hok.total
        dsimp only at c0 c1 c2 c3 c4 b1 b2 b3 b4 b5
        have Hok := Lib.hid hok
        have Ho1 := Lib.hid ho1
        have Ho2 := Lib.hid ho2
        have Ho3 : Hid (ops.length ≤ 2560) := by show _ ≤ _; omega
        have b3' : (y : Int) < 4294967296 := by omega
        have hii : (i : Int) < 80 := by omega
        have hll : (i : Int) < (len : Int) := by omega
        clear hok ho1 ho2 ho3 b3
        have hxb := heap_alloc_new wr (.cells #[.int .u8 (a : Int), .int .u8 (wh : Int), .int .u32 (y : Int), .int .u8 (n : Int), .int .u16 (t : Int)] 36)
        have HSx := Lib.hid (HS.out.fresh ((Fr.refl _ wr).alloc (.cells #[.int .u8 (a : Int), .int .u8 (wh : Int), .int .u32 (y : Int), .int .u8 (n : Int), .int .u16 (t : Int)] 36)))
        go_upto_region 9 with fail
        obtain ⟨X, hX⟩ : ∃ X, wr.alloc (.cells #[.int .u8 (a : Int), .int .u8 (wh : Int), .int .u32 (y : Int), .int .u8 (n : Int), .int .u16 (t : Int)] 36) = X := ⟨_, rfl⟩
        obtain ⟨xb, hb⟩ : ∃ xb, wr.heap.size = xb := ⟨_, rfl⟩
        rw [hX] at HSx hxb ⊢
        rw [hb] at hxb ⊢
        clear HS hX hb c0 c1 c2 c3 c4
        have c0 : X.cell? ⟨xb, 0, none⟩ = some (.int .u8 (a : Int)) := (cell_of hxb 0).trans rfl
        have c1 : X.cell? ⟨xb, 1, none⟩ = some (.int .u8 (wh : Int)) := (cell_of hxb 1).trans rfl
        have c2 : X.cell? ⟨xb, 2, none⟩ = some (.int .u32 (y : Int)) := (cell_of hxb 2).trans rfl
        have c3 : X.cell? ⟨xb, 3, none⟩ = some (.int .u8 (n : Int)) := (cell_of hxb 3).trans rfl
        have c4 : X.cell? ⟨xb, 4, none⟩ = some (.int .u16 (t : Int)) := (cell_of hxb 4).trans rfl
        have Hxb := Lib.hid hxb
        have hand := and1_u32 y (by omega)
        clear hxb
        go_upto_block 2 with fail
        go_cut [9, 10, 11, 12, 13, 14] from 21 to 126 (fun _ _ _ _ _ _ wx => ∃ v' r', Hid (ReSt w wx pe bp bq bm v' (Rc.opsOf P0 f (i + 1)).1 (Rc.opsOf P0 f (i + 1)).2 r' (Rc.A.start.run (Rc.opsOf P0 f (i + 1)).1) (Rc.opsOf P0 f (i + 1)).2))
        case first =>
          by_cases hk3 : a % 5 = 3
          · have t3 : ((a : Int) % 5 == 3) = true := by simp; omega
            have hso : Rc.stepOps ps ⟨a, wh, y, n, t⟩ = (Rc.bitsOf y (n % 33), ps) := by unfold Rc.stepOps; rw [if_pos hk3]
            rw [hso] at Hnx
            obtain ⟨K, hK⟩ : ∃ K, n % 33 = K := ⟨_, rfl⟩
            rw [hK] at Hnx
            have hKi : (n : Int) % 33 = (K : Int) := by omega
            have hK32 : K ≤ 32 := by omega
            have hK32i : (K : Int) ≤ 32 := by omega
            have hd := direct_ops pe v ops y K X HSx.out.enc (by have := Ho3.out; omega) (by omega) hK32
            have Hd := Lib.hid hd
            clear hk3 hso hd hK hand
            go_upto_region 18 with (go_at_call 15; refine Hd.out.mono ?_; rintro r5 w5 ⟨rfl, v5, h1, h2⟩; have HS5 := Lib.hid (HSx.out.op h1 h2); have hxb5 := h2.keep Hxb.out (not_foot HSx.out.enc Hxb.out (by decide) (by decide)); have Hx5 := Lib.hid hxb5; clear h1 h2 hxb5)
            go_wp2
            go_loopw [10] (fun v10 wr => ∃ (q : Int) (j : Nat) (lM : List Rc.Op) (r' : Value), q + 1 = j ∧ j ≤ K ∧ v10 = .int .i64 q ∧ Hid (lM ++ Rc.bitsOf y j = ops ++ Rc.bitsOf y K) ∧ Hid (Rc.AllFine lM) ∧ Hid (lM.length + j ≤ 2600) ∧ Hid (wr.heap[xb]? = some (.cells #[.int .u8 (a : Int), .int .u8 (wh : Int), .int .u32 (y : Int), .int .u8 (n : Int), .int .u16 (t : Int)] 36 (0, 0))) ∧
              Hid (ReSt w wr pe bp bq bm v5 (ops ++ Rc.bitsOf y K) ps r' (Rc.A.start.run lM) ps)) (fun v10 _ => (intOf v10 + 1).toNat)
            case atStart => exact ⟨_, K, ops, r, by omega, Nat.le_refl _, rfl, rfl, Ho1.out, by have := Ho3.out; show _ ≤ _; omega, Hx5.out, HS5.out⟩
            case round =>
              obtain ⟨q, j, lM, r', hq, hj, rfl, hl, hfn, hln, HX, HS2⟩ := hrel
              rcases j with _ | j
              · obtain rfl : q = -1 := by omega
                have hfin : lM = ops ++ Rc.bitsOf y K := by have := hl.out; simpa [Rc.bitsOf] using this
                rw [hfin] at HS2
                have Hfin := Lib.hid hfin
                clear hfin hq hl
                go_wp2
                go_meet
                exact ⟨v5, r', by rw [Hnx.out]; exact HS2⟩
              · obtain rfl : q = (j : Int) := by omega
                have m2 : wr.cell? ⟨xb, 2, none⟩ = some (.int .u32 (y : Int)) := (cell_of HX.out 2).trans rfl
                obtain ⟨u0, u1, rfl, hbm⟩ := HS2.out.hm
                have m0 : wr.cell? ⟨bm, 0, none⟩ = some u0 := (cell_of hbm 0).trans rfl
                have m1 : wr.cell? ⟨bm, 1, none⟩ = some u1 := (cell_of hbm 1).trans rfl
                have Hbm := Lib.hid hbm
                have hyj : y / 2 ^ j < 4294967296 := Nat.lt_of_le_of_lt (Nat.div_le_self _ _) (by omega)
                have hand64 := and1_i64 _ hyj
                rw [show ((y / 2 ^ j : Nat) : Int) = (y : Int) / 2 ^ j by simp] at hand64
                have hcv : IntKind.i64.wrap ((y : Int) / 2 ^ j) = (y : Int) / 2 ^ j := by
                  obtain ⟨z, hz⟩ : ∃ z, y / 2 ^ j = z := ⟨_, rfl⟩
                  rw [hz] at hyj
                  have hyi : (y : Int) / 2 ^ j = (z : Int) := by rw [← hz]; simp
                  rw [hyi]
                  exact IntWalk.i64_in _ (by omega)
                have hb2 : y / 2 ^ j % 2 < 2 := Nat.mod_lt _ (by decide)
                have hgd := Rc.A.Good.start.run hfn.out
                have hkk : (Rc.A.start.run lM).k ≤ 100000000 := by have := run_k Rc.A.start lM; have h0 : Rc.A.start.k = 0 := rfl; have := hln.out; omega
                have hd2 := ref_direct (.agg #[u0, u1]) (Rc.A.start.run lM) (y / 2 ^ j % 2) wr.drew (HS2.out.ra.keep (Fr.refl _ _).drew) hgd hkk hb2
                have hnext : Hid ((lM ++ [Rc.Op.direct (y / 2 ^ j % 2)]) ++ Rc.bitsOf y j = ops ++ Rc.bitsOf y K) := by rw [← hl.out]; show _ = _; simp [Rc.bitsOf]
                have hfine : Hid (Rc.AllFine (lM ++ [Rc.Op.direct (y / 2 ^ j % 2)])) := hfn.out.append (Rc.AllFine.cons hb2 Rc.AllFine.nil)
                have hrun : Hid (Rc.A.start.run (lM ++ [Rc.Op.direct (y / 2 ^ j % 2)]) = (Rc.A.start.run lM).direct (y / 2 ^ j % 2)) := Rc.A.run_append Rc.A.start lM [Rc.Op.direct (y / 2 ^ j % 2)]
                have Hd2 := Lib.hid hd2
                have hjj : (j : Int) ≤ 32 := by omega
                have hj0 : (0 : Int) ≤ (j : Int) := by omega
                clear hq hbm hyj hb2 hgd hkk hd2 hl c0 c1 c2 c3 c4
                go_upto_region 21 with fail
                clear hlen b3'
                go_still_tail 7, (by kernel_rfl)
                go_wp2_with (go_at_call 16; refine Hd2.out.mono ?_; rintro r5 w6 ⟨r6, rfl, h1, h2, h3⟩; obtain ⟨z0, zc, zL, zS, zo, rfl, zr⟩ := h1.ex; have HS6 := Lib.hid (HS2.out.mset ((Fr.refl _ _).drew.trans h2 (fun _ h => .inl h)) h1 (fun g hg => h3 g hg)); have hb6 := h2.keep (a := wr.drew) Hbm.out (fun h => h); have k0 : w6.cell? ⟨bm, 0, none⟩ = some u0 := (cell_of hb6 0).trans rfl; have k1 : w6.cell? ⟨bm, 1, none⟩ = some u1 := (cell_of hb6 1).trans rfl; have kf0 := free_of hb6 0; have kf1 := free_of hb6 1; have hx6 := h2.keep (a := wr.drew) HX.out (fun h => h); have Hx6 := Lib.hid hx6; have hne6 := ne_of_ty hx6 hb6 (by decide); have Hne6 := Lib.hid hne6; clear h1 h2 h3 zo zr hb6 hx6 hne6)
                go_roundw
                case rel => exact ⟨_, j, _, _, by omega, by omega, rfl, hnext, hfine, by have := hln.out; show _ ≤ _; simp; omega, block_setCell_other (block_setCell_other Hx6.out Hne6.out _) Hne6.out _, by rw [hrun.out]; exact HS6.out⟩
                case measure => simp [intOf]
          · by_cases hk4 : a % 5 = 4
            · have t3 : ((a : Int) % 5 == 3) = false := by simp; omega
              have t4 : ((a : Int) % 5 == 4) = true := by simp; omega
              have hso : Rc.stepOps ps ⟨a, wh, y, n, t⟩ = ([.part (⟨a, wh, y, n, t⟩ : Rc.Stp).pStart (⟨a, wh, y, n, t⟩ : Rc.Stp).pSize (⟨a, wh, y, n, t⟩ : Rc.Stp).pTotal], ps) := by unfold Rc.stepOps; rw [if_neg hk3, if_pos hk4]
              rw [hso] at Hnx
              have hpt := part_is a wh y n t Hok.out X
              have Hpt := Lib.hid hpt
              have hpk := (⟨a, wh, y, n, t⟩ : Rc.Stp).pt Hok.out
              have hT65 : (⟨a, wh, y, n, t⟩ : Rc.Stp).pTotal ≤ 65536 := by unfold Rc.Stp.pTotal; dsimp only; omega
              obtain ⟨S, hS⟩ : ∃ S, (⟨a, wh, y, n, t⟩ : Rc.Stp).pStart = S := ⟨_, rfl⟩
              obtain ⟨Z, hZ⟩ : ∃ S, (⟨a, wh, y, n, t⟩ : Rc.Stp).pSize = S := ⟨_, rfl⟩
              obtain ⟨T, hT⟩ : ∃ S, (⟨a, wh, y, n, t⟩ : Rc.Stp).pTotal = S := ⟨_, rfl⟩
              rw [hS, hZ, hT] at Hpt hpk Hnx
              rw [hT] at hT65
              have Hpk := Lib.hid hpk
              have hin2 := hpk.in_
              have hSi : (S : Int) ≤ 65536 := by omega
              have hZi : (Z : Int) ≤ 65536 := by omega
              have hTi : (T : Int) ≤ 65536 := by omega
              have hgd := Rc.A.Good.start.run Ho1.out
              have Hgd := Lib.hid hgd
              have hkk : (Rc.A.start.run ops).k ≤ 100000000 := by have := run_k Rc.A.start ops; have h0 : Rc.A.start.k = 0 := rfl; have := Ho3.out; omega
              have Hkk := Lib.hid hkk
              have hrun : Hid (Rc.A.start.run (ops ++ [Rc.Op.part S Z T]) = (Rc.A.start.run ops).part S Z T) := Rc.A.run_append Rc.A.start ops [Rc.Op.part S Z T]
              clear hk3 hk4 hso hpt hpk hS hZ hT hT65 hin2 hand hgd hkk
              go_upto_region 25 with (first | (go_at_call 17; refine Hpt.out.mono ?_; rintro r4 w4 ⟨rfl, o, q, hw⟩; have HS4 := Lib.hid (HSx.out.fresh (((Fr.refl _ X).alloc o).drewN q)); rw [← hw] at HS4; clear hw) | (go_at_call 18; refine (part_ops pe v ops S Z T _ HS4.out.enc (by have := Ho3.out; omega) Hpk.out).mono ?_; rintro r5 w5 ⟨rfl, v5, h1, h2⟩; have HS5 := Lib.hid (HS4.out.op h1 h2); clear h1 h2))
              obtain ⟨u0, u1, rfl, hbm⟩ := HS5.out.hm
              have m0 : w5.cell? ⟨bm, 0, none⟩ = some u0 := (cell_of hbm 0).trans rfl
              have m1 : w5.cell? ⟨bm, 1, none⟩ = some u1 := (cell_of hbm 1).trans rfl
              have Hbm := Lib.hid hbm
              have hd2 := ref_part (.agg #[u0, u1]) (Rc.A.start.run ops) S Z T w5 HS5.out.ra Hgd.out Hkk.out Hpk.out
              have Hd2 := Lib.hid hd2
              clear hbm hd2 c0 c1 c2 c3 c4
              go_wp2_with (go_at_call 19; refine Hd2.out.mono ?_; rintro r5 w6 ⟨r6, rfl, h1, h2, h3⟩; obtain ⟨z0, zc, zL, zS, zo, rfl, zr⟩ := h1.ex; have HS6 := Lib.hid (HS5.out.mset h2 h1 h3); have hb6 := h2.keep Hbm.out (fun h => h); have k0 : w6.cell? ⟨bm, 0, none⟩ = some u0 := (cell_of hb6 0).trans rfl; have k1 : w6.cell? ⟨bm, 1, none⟩ = some u1 := (cell_of hb6 1).trans rfl; have kf0 := free_of hb6 0; have kf1 := free_of hb6 1; clear h1 h2 h3 zo zr hb6)
              go_meet
              exact ⟨v5, _, by rw [Hnx.out]; show Hid _; rw [hrun.out]; exact HS6⟩
            · have t3 : ((a : Int) % 5 == 3) = false := by simp; omega
              have t4 : ((a : Int) % 5 == 4) = false := by simp; omega
              have hso : Rc.stepOps ps ⟨a, wh, y, n, t⟩ = ([.bit (ps.getD (wh % 4) 0) (y % 2)], ps.set (wh % 4) (Rc.learn (ps.getD (wh % 4) 0) (y % 2))) := by unfold Rc.stepOps; rw [if_neg hk3, if_neg hk4]
              rw [hso] at Hnx
              obtain ⟨k, hk⟩ : ∃ k, wh % 4 = k := ⟨_, rfl⟩
              have hki : (wh : Int) % 4 = (k : Int) := by omega
              have hkt : (wh : Int).tmod 4 = (k : Int) := by rw [Int.tmod_eq_emod_of_nonneg (by omega)]; exact hki
              have hk4l : k < 4 := by omega
              have hk4i : (k : Int) < 4 := by omega
              have hk0i : (0 : Int) ≤ (k : Int) := by omega
              rw [hk] at Hnx
              have hpr := Ho2.out.ok _ hk4l
              obtain ⟨P, hP⟩ : ∃ P, ps.getD k 0 = P := ⟨_, rfl⟩
              have hcp : X.cell? ⟨bp, k, none⟩ = some (.int .u16 (P : Int)) := by rw [← hP]; exact (cell_of HSx.out.hp _).trans (arr_get Ho2.out hk4l)
              rw [hP] at hpr Hnx
              have hd := bit_ops pe v ops bp k P (y % 2) X.drew (HSx.out.fresh (Fr.refl _ _).drew).enc (by have := Ho3.out; omega) hpr (Nat.mod_lt _ (by decide)) hcp (free_of HSx.out.hp _) (not_foot HSx.out.enc HSx.out.hp (by decide) (by decide))
              have Hd := Lib.hid hd
              have Hpr := Lib.hid hpr
              have HPd := Lib.hid hP
              have Hk4 := Lib.hid hk4l
              have hgd := Rc.A.Good.start.run Ho1.out
              have Hgd := Lib.hid hgd
              have hkk : (Rc.A.start.run ops).k ≤ 100000000 := by have := run_k Rc.A.start ops; have h0 : Rc.A.start.k = 0 := rfl; have := Ho3.out; omega
              have Hkk := Lib.hid hkk
              have hrun : Hid (Rc.A.start.run (ops ++ [Rc.Op.bit P (y % 2)]) = (Rc.A.start.run ops).bit P (y % 2)) := Rc.A.run_append Rc.A.start ops [Rc.Op.bit P (y % 2)]
              have hxp : xb ≠ bp := ne_of_ty Hxb.out HSx.out.hp (by decide)
              have Hxp := Lib.hid hxp
              obtain ⟨P', hP'⟩ : ∃ P', Rc.learn P (y % 2) = P' := ⟨_, rfl⟩
              rw [hP'] at Hd Hnx
              have HP' := Lib.hid hP'
              have hP'b : P' ≤ 2048 := by rw [← hP']; have := (hpr.learn (y % 2)).2; omega
              clear hk3 hk4 hso hd hpr hcp hk hk4l hP hgd hkk hxp hP'
              go_upto_region 11 with fail
              clear hlen b3' hi2 hl2 hi
              go_still_tail 7, (by kernel_rfl)
              go_upto_region 12 with (go_at_call 20; refine Hd.out.mono ?_; rintro r5 w5 ⟨rfl, v5, h1, h2⟩; have HS5 := Lib.hid ((HSx.out.fresh (Fr.refl _ _).drew).set k P' h1 h2); have hx5 := h2.keep (block_setCell_other (w := X.drew) Hxb.out Hxp.out _) (not_foot HSx.out.enc Hxb.out (by decide) (by decide)); have Hx5 := Lib.hid hx5; clear h1 h2 hx5)
              obtain ⟨u0, u1, rfl, hbm⟩ := HS5.out.hm
              clear c0 c1 c2 c3 c4
              have c2 : w5.cell? ⟨xb, 2, none⟩ = some (.int .u32 (y : Int)) := (cell_of Hx5.out 2).trans rfl
              have m0 : w5.cell? ⟨bm, 0, none⟩ = some u0 := (cell_of hbm 0).trans rfl
              have m1 : w5.cell? ⟨bm, 1, none⟩ = some u1 := (cell_of hbm 1).trans rfl
              have hcq : w5.cell? ⟨bq, k, none⟩ = some (.int .u64 (P : Int)) := by rw [← HPd.out]; exact (cell_of HS5.out.hq _).trans (arr64_get Ho2.out Hk4.out)
              have Hbm := Lib.hid hbm
              have hqm := ne_of_ty HS5.out.hq hbm (by decide)
              have Hqm := Lib.hid hqm
              have hd2 := ref_bit (.agg #[u0, u1]) (Rc.A.start.run ops) P (y % 2) w5.drew (HS5.out.ra.keep (Fr.refl _ _).drew) Hgd.out Hkk.out Hpr.out
              rw [HP'.out] at hd2
              have Hd2 := Lib.hid hd2
              obtain ⟨Y, hY⟩ : ∃ Y, y % 2 = Y := ⟨_, rfl⟩
              rw [hY] at hand Hd2 hrun Hnx HS5
              have hY2 : (Y : Int) < 2 := by omega
              have hcv : IntKind.i64.wrap (Y : Int) = (Y : Int) := IntWalk.i64_in _ (by omega)
              clear hbm hd2 hY
              go_cut [49] from 21 to 126 (fun _ wx => ∃ r', Hid (ReSt w wx pe bp bq bm v5 (ops ++ [Rc.Op.bit P Y]) (ps.set k P') r' (Rc.A.start.run (ops ++ [Rc.Op.bit P Y])) (ps.set k P')))
              case first =>
                go_region_with (go_at_call 21; refine Hd2.out.mono ?_; rintro r5 w6 ⟨r6, rfl, h1, h2, h3⟩; obtain ⟨z0, zc, zL, zS, zo, rfl, zr⟩ := h1.ex; have HS6 := Lib.hid ((HS5.out.mset ((Fr.refl _ _).drew.trans h2 (fun _ h => .inl h)) h1 h3).qset k P'); have hb6 := h2.keep (a := w5.drew) Hbm.out (fun h => h); have k0 : w6.cell? ⟨bm, 0, none⟩ = some u0 := (cell_of hb6 0).trans rfl; have k1 : w6.cell? ⟨bm, 1, none⟩ = some u1 := (cell_of hb6 1).trans rfl; have kf0 := free_of hb6 0; have kf1 := free_of hb6 1; have hq6 := h2.keep (a := w5.drew) HS5.out.hq (fun h => h); have kq : w6.cell? ⟨bq, k, none⟩ = some (.int .u64 (P : Int)) := (by rw [← HPd.out]; exact (cell_of hq6 _).trans (arr64_get Ho2.out Hk4.out)); have kfq := free_of hq6 k; clear h1 h2 h3 zo zr hb6 hq6)
                all_goals go_wp2
                all_goals go_meet
                all_goals exact ⟨_, by rw [hrun.out]; exact HS6⟩
              case rest =>
                obtain ⟨r6, HS6⟩ := hcut
                clear c2 m0 m1 hcq hqm hand hcv
                have p6 : wc.cell? ⟨bp, k, none⟩ = some (.int .u16 (P' : Int)) := (cell_of HS6.out.hp _).trans (arr_set_get Ho2.out.len Hk4.out P').1
                have q6 : wc.cell? ⟨bq, k, none⟩ = some (.int .u64 (P' : Int)) := (cell_of HS6.out.hq _).trans (arr_set_get Ho2.out.len Hk4.out P').2
                have hcv6 : IntKind.u64.wrap (P' : Int) = (P' : Int) := IntWalk.u64_in _ (by omega)
                go_upto_region 13 with fail
                go_quiet (fail)
                go_wp2
                go_meet
                exact ⟨v5, r6, by rw [Hnx.out]; exact HS6.out.fresh ((Fr.refl _ _).drewN _)⟩
        case rest =>
          obtain ⟨v', r', HSn⟩ := hcut
          have hoo := Rc.opsOf_ok HP.out (fun i => Hf.out i) (i + 1)
          obtain ⟨opn, hopn⟩ : ∃ opn, (Rc.opsOf P0 f (i + 1)).1 = opn := ⟨_, rfl⟩
          obtain ⟨psn, hpsn⟩ : ∃ psn, (Rc.opsOf P0 f (i + 1)).2 = psn := ⟨_, rfl⟩
          rw [hopn, hpsn] at HSn
          rw [hopn] at hoo
          have hln : opn.length ≤ 10000 := by have := hoo.2.2; omega
          have Hopn := Lib.hid hopn
          have Hpsn := Lib.hid hpsn
          obtain ⟨u0, u1, rfl, hbm⟩ := HSn.out.hm
          have m0 : wc.cell? ⟨bm, 0, none⟩ = some u0 := (cell_of hbm 0).trans rfl
          have m1 : wc.cell? ⟨bm, 1, none⟩ = some u1 := (cell_of hbm 1).trans rfl
          obtain ⟨S, hE, hR⟩ := both_ends HSn.out hln
          have HE := Lib.hid hE
          have HR := Lib.hid hR
          have HF0 : Hid (Fr (fun _ => False) wc wc.drew) := (Fr.refl _ _).drew
          clear hoo hopn hpsn hln hbm hE hR c0 c1 c2 c3 c4 hand Hxb HSx Hnx
          go_upto_region 26 with fail
          clear hlen b3'
          by_cases h7 : i % 7 = 0
          · have t7 : ((i : Int).tmod 7 == 0) = true := by rw [Int.tmod_eq_emod_of_nonneg (by omega)]; simp; omega
            have t7' : ((i : Int) % 7 == 0) = true := by simp; omega
            clear h7
            go_region_with (first | (go_at_call 22; (with_reducible refine (HE.out _ HF0.out).mono ?_); rintro r8 w8 ⟨rfl, h2⟩; have HF8 := Lib.hid (HF0.out.trans h2 (fun _ h => .inl h)); have m0b := HF8.out.cell_ m0 (fun h => h); have m1b := HF8.out.cell_ m1 (fun h => h); clear h2) | (go_at_call 23; (with_reducible refine (HR.out _ HF0.out).mono ?_); rintro r9 w9 ⟨rfl, h2⟩; have HF9 := Lib.hid (HF0.out.trans h2 (fun _ h => .inl h)); clear h2) | (go_at_call 22; (with_reducible refine (HE.out _ HF9.out).mono ?_); rintro r8 w10 ⟨rfl, h2⟩; have HFz := Lib.hid (HF9.out.trans h2 (fun _ h => .inl h)); clear h2) | (go_at_call 23; (with_reducible refine (HR.out _ HF8.out).mono ?_); rintro r9 w10 ⟨rfl, h2⟩; have HFz := Lib.hid (HF8.out.trans h2 (fun _ h => .inl h)); clear h2))
            all_goals go_wp2
            all_goals go_roundw
            all_goals first | (simp [intOf]; omega) | skip
            all_goals exact ⟨i + 1, v', _, hl1, by omega, by go_num, by rw [Hopn.out, Hpsn.out]; exact HSn.out.fresh HFz.out⟩
          · have t7 : ((i : Int).tmod 7 == 0) = false := by rw [Int.tmod_eq_emod_of_nonneg (by omega)]; simp; omega
            have t7' : ((i : Int) % 7 == 0) = false := by simp; omega
            clear h7
            go_quiet (fail)
            go_wp2
            go_roundw
            case rel => exact ⟨i + 1, v', _, hl1, by omega, by go_num, by rw [Hopn.out, Hpsn.out]; exact HSn.out.fresh ((Fr.refl _ _).drewN _)⟩
            case measure => simp [intOf]; omega
      · have hN : i = min len 80 := by omega
        rw [hN] at HS
        by_cases hl : i < len
        · have hl' : decide (i < len) = true := by simpa using hl
          have h80 : decide ((i : Int) < 80) = false := by simp; omega
          clear hlt hN hi hi2 hl
          go_wp2
          go_meet
          exact ⟨v, r, _, rfl, HS⟩
        · have hl' : decide (i < len) = false := by simpa using hl
          clear hlt hN hi hi2 hl
          go_wp2
          go_meet
          exact ⟨v, r, _, rfl, HS⟩
  case rest =>
    obtain ⟨v, r, ops, hops, HS⟩ := hcut
    clear Hst
    have hoo := Rc.opsOf_ok HP.out (fun i => Hf.out i) (min len 80)
    rw [← hops.out] at hoo
    have hln : ops.length ≤ 10000 := by have := hoo.2.2; omega
    obtain ⟨psn, hpsn⟩ : ∃ psn, (Rc.opsOf P0 f (min len 80)).2 = psn := ⟨_, rfl⟩
    rw [hpsn] at HS
    obtain ⟨u0, u1, rfl, hbm⟩ := HS.out.hm
    have m0 : wc.cell? ⟨bm, 0, none⟩ = some u0 := (cell_of hbm 0).trans rfl
    have m1 : wc.cell? ⟨bm, 1, none⟩ = some u1 := (cell_of hbm 1).trans rfl
    obtain ⟨S, hE, hR⟩ := both_ends HS.out hln
    have HE := Lib.hid hE
    have HR := Lib.hid hR
    have HF0 : Hid (Fr (fun _ => False) wc wc.drew) := (Fr.refl _ _).drew
    have Hfr := Lib.hid HS.out.fr
    clear hoo hln hbm hE hR hpsn hops HS hlen
    go_upto_region 28 with fail
    go_region_with (first | (go_at_call 22; (with_reducible refine (HE.out _ HF0.out).mono ?_); rintro r8 w8 ⟨rfl, h2⟩; have HF8 := Lib.hid (HF0.out.trans h2 (fun _ h => .inl h)); have m0b := HF8.out.cell_ m0 (fun h => h); have m1b := HF8.out.cell_ m1 (fun h => h); clear h2) | (go_at_call 23; (with_reducible refine (HR.out _ HF0.out).mono ?_); rintro r9 w9 ⟨rfl, h2⟩; have HF9 := Lib.hid (HF0.out.trans h2 (fun _ h => .inl h)); clear h2) | (go_at_call 22; (with_reducible refine (HE.out _ HF9.out).mono ?_); rintro r8 w10 ⟨rfl, h2⟩; have HFz := Lib.hid (HF9.out.trans h2 (fun _ h => .inl h)); clear h2) | (go_at_call 23; (with_reducible refine (HR.out _ HF8.out).mono ?_); rintro r9 w10 ⟨rfl, h2⟩; have HFz := Lib.hid (HF8.out.trans h2 (fun _ h => .inl h)); clear h2))
    all_goals go_wp2
    all_goals go_ret
    all_goals exact ⟨rfl, Hfr.out.trans HFz.out (fun _ h => .inl h)⟩
end Go.Proofs.Ytpddocehjljofaa
