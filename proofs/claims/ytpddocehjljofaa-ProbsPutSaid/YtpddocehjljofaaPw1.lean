/- ProbsPut: the walk of the law. -/
import Derived.Test.YtpddocehjljofaaPp
namespace Go.Proofs.Ytpddocehjljofaa
set_option linter.unusedVariables false
open Go.RowKit Go.My

theorem put_any (p : Nat) (v : Value) (ops : List Rc.Op) (b : Nat) (t : List Nat) (N M cap x : Nat) (w : World) (h : EncO w p v ops) (hn : ops.length ≤ 90000000) (ht : TrAt w b t) (hp : Rc.Pl t M) (hN : N ≤ 16) (hN1 : 1 ≤ N) (hM : M = 2 ^ N) (hx : x < 2147483648) :
    Calls Try.prog 40 #[.slice (some ⟨b, 0, none⟩) M cap, .pointer (some ⟨p, 0, none⟩), .int .i64 (x : Int)] w fun r w' => r = .returned (.tuple #[]) ∧ PutPost w p b v (ops ++ (Rc.putT t 1 (bsAt false x 0 N)).1) (Rc.putT t 1 (bsAt false x 0 N)).2.1 w' :=
  tree_put p v ops b t M N M cap x w h hn ht hp hN hN1 hM (Nat.le_refl _) hx
theorem put_any_back (p : Nat) (v : Value) (ops : List Rc.Op) (b : Nat) (t : List Nat) (N M cap x : Nat) (w : World) (h : EncO w p v ops) (hn : ops.length ≤ 90000000) (ht : TrAt w b t) (hp : Rc.Pl t M) (hN : N ≤ 16) (hN1 : 1 ≤ N) (hM : M = 2 ^ N) (hx : x < 2147483648) :
    Calls Try.prog 39 #[.slice (some ⟨b, 0, none⟩) M cap, .pointer (some ⟨p, 0, none⟩), .int .i64 (x : Int)] w fun r w' => r = .returned (.tuple #[]) ∧ PutPost w p b v (ops ++ (Rc.putT t 1 (bsAt true x 0 N)).1) (Rc.putT t 1 (bsAt true x 0 N)).2.1 w' :=
  tree_put_back p v ops b t M N M cap x w h hn ht hp hN hN1 hM (Nat.le_refl _) hx

set_option maxHeartbeats 8000000 in
set_option maxRecDepth 100000 in
theorem probsPut_walk (a : Nat) (ha : a < 256) (f : Nat → Nat) (hf : ∀ i, f i < 65536) (A : Option Addr) (len cap : Nat) (hlen : len ≤ 9223372036854775807) (back : Bool) (w : World)
    (hat : ∀ i, i < len → ∃ b off, A = some ⟨b, off, none⟩ ∧ w.cell? ⟨b, off + i, none⟩ = some (.int .u16 (f i : Int))) :
    Calls Try.prog 6 #[.int .u8 (a : Int), .slice A len cap, .bool back] w fun r w' => r = .returned (.bool true) ∧ Fr (fun _ => False) w w' := by
  have Hat := Lib.hid hat
  have Hf := Lib.hid hf
  obtain ⟨N, hN⟩ : ∃ N, 1 + a % 8 = N := ⟨_, rfl⟩
  have hNi : (1 : Int) + (a : Int) % 8 = (N : Int) := by omega
  have hN8 : N ≤ 8 := by omega
  have hN1 : 1 ≤ N := by omega
  have hN8i : (N : Int) ≤ 8 := by omega
  have hN1i : (1 : Int) ≤ (N : Int) := by omega
  have hai : (a : Int) < 256 := by omega
  clear hat hf hN
  go_enter Try.func6, Try.ntmps6
  go_upto_region 3 with (go_at_call 36; refine (speaks04 _).mono ?_; rintro r w1 ⟨rfl, h1⟩; have HF1 := Lib.hid h1; clear h1)
  go_upto_region 4 with fail
  try rw [hNi]
  clear hNi hai
  go_upto_block 0 with fail
  go_cut [8, 9] (fun v8 _ wx => v8 = .int .i64 ((2 ^ N : Nat) : Int) ∧ wx = w1)
  case first =>
    go_wp2
    go_loop [8, 9] (fun v8 v9 => ∃ i : Nat, i ≤ N ∧ v9 = .int .i64 (i : Int) ∧ v8 = .int .i64 ((2 ^ i : Nat) : Int)) (fun _ v9 => 8 - (intOf v9).toNat)
    case atStart => exact ⟨0, Nat.zero_le _, rfl, rfl⟩
    case round =>
      obtain ⟨i, hi, rfl, rfl⟩ := hrel
      by_cases hlt : i < N
      · have hii : (i : Int) < (N : Int) := by omega
        obtain ⟨p, hp⟩ : ∃ p, 2 ^ i = p := ⟨_, rfl⟩
        have hp8 : p ≤ 256 := by rw [← hp]; have : (2 : Nat) ^ i ≤ 2 ^ 8 := Nat.pow_le_pow_right (by decide) (by omega); exact this
        have hnx : 2 ^ (i + 1) = p * 2 := by rw [Nat.pow_succ, hp]
        have Hnx := Lib.hid hnx
        rw [hp]
        clear hp hnx
        go_wp2
        go_round
        case rel => exact ⟨i + 1, by omega, by go_num, by rw [Hnx.out]; go_num⟩
        case measure => simp [intOf]; omega
      · obtain rfl : i = N := by omega
        obtain ⟨p, hp⟩ : ∃ p, 2 ^ i = p := ⟨_, rfl⟩
        have Hp := Lib.hid hp
        rw [hp]
        clear hp
        go_wp2
        go_meet
        exact ⟨by rw [Hp.out], rfl⟩
  case rest =>
    obtain ⟨rfl, rfl⟩ := hcut
    obtain ⟨M, hM⟩ : ∃ M, 2 ^ N = M := ⟨_, rfl⟩
    have hM256 : M ≤ 256 := by rw [← hM]; have : (2 : Nat) ^ N ≤ 2 ^ 8 := Nat.pow_le_pow_right (by decide) hN8; exact this
    have hM1 : 1 ≤ M := by rw [← hM]; exact Nat.pow_pos (by decide)
    have hnew := tree_new (N : Int) N (by omega) (by omega) wc
    have hpl := Rc.Pl.new (2 ^ N)
    rw [hM] at hnew hpl ⊢
    have HM := Lib.hid hM
    have Hnew := Lib.hid hnew
    have Hpl := Lib.hid hpl
    have hMi : (M : Int) ≤ 256 := by omega
    have hM1i : (1 : Int) ≤ (M : Int) := by omega
    clear hM hnew hpl
    go_upto_region 10 with (first
      | (go_at_call 37; refine Hnew.out.mono ?_; rintro r w2 ⟨rfl, h1, h2⟩; have HT2 := Lib.hid h1; have HF2 := Lib.hid (HF1.out.trans h2 (fun _ h => h.elim)); have hrn := ref_tree_new M w2 hM1 (by omega); have Hrn := Lib.hid hrn; clear h1 h2 hrn)
      | (go_at_call 38; refine Hrn.out.mono ?_; rintro r w3 ⟨g, cap3, rfl, h1, h2, h3⟩; have HR3 := Lib.hid h1; have HT3 := Lib.hid (HT2.out.keep h2 (fun h => h)); have HF3 := Lib.hid (HF2.out.trans h2 (fun _ h => h.elim)); have Hg3 := Lib.hid h3; clear h1 h2 h3))
    go_upto_region 11 with (first
      | (go_at_call 13; refine (enc_new w3).mono ?_; rintro r w4 ⟨rfl, h1, h2⟩; have HE4 := Lib.hid h1; have HT4 := Lib.hid (HT3.out.keep h2 (fun h => h)); have HR4 := Lib.hid (HR3.out.keep h2 (fun h => h)); have HF4 := Lib.hid (HF3.out.trans h2 (fun _ h => h.elim)); clear h1 h2)
      | (go_at_call 14; refine (ref_new w4).mono ?_; rintro r w5 ⟨r0, rfl, h1, h2, h3⟩; obtain ⟨x0, cap0, L0, S0, ho, rfl, hr⟩ := h1.ex; have HA5 := Lib.hid h1; have HE5 := Lib.hid (HE4.out.keep h2 (fun _ _ h => h)); have HT5 := Lib.hid (HT4.out.keep h2 (fun h => h)); have HR5 := Lib.hid (HR4.out.keep h2 (fun h => h)); have HF5 := Lib.hid (HF4.out.trans h2 (fun _ h => h.elim)); have Hr5 := Lib.hid h3; have Hz5 := Lib.hid h2.size; clear h1 h2 h3 ho hr))
    have hst : ∃ W pe b bm, w5.alloc (.cells #[.slice x0 L0.length cap0, .int .u64 (S0 : Int)] 29) = W ∧ w3.heap.size = pe ∧ wc.heap.size = b ∧ w5.heap.size = bm ∧
        PpSt w W pe b bm g M cap3 (.slice none 0 0) [] (List.replicate M 1024) (.agg #[.slice x0 L0.length cap0, .int .u64 (S0 : Int)]) [] (List.replicate M 1024) := by
      have hf : Fr (fun _ => False) w5 (w5.alloc (.cells #[.slice x0 L0.length cap0, .int .u64 (S0 : Int)] 29)) := (Fr.refl _ _).alloc _
      refine ⟨_, _, _, _, rfl, rfl, rfl, rfl, HE5.out.keep hf (fun _ _ h => h), HT5.out.keep hf (fun h => h), ⟨_, _, rfl, heap_alloc_new w5 _⟩, HA5.out.keep hf, HR5.out.keep hf (fun h => h), fun k hk hfo => ?_, HF5.out.trans hf (fun _ h => h.elim), ?_, HF1.out.size, HF5.out.size⟩
      · have h1 := Hr5.out k hk
        rcases hfo with rfl | hfo
        · have := lt_of_block HE4.out.at_.blk
          omega
        · cases hfo
      · rintro k (rfl | hk)
        · exact HF3.out.size
        · cases hk
    obtain ⟨W, pe, b, bm, hW, h1, h2, h3, hst⟩ := hst
    rw [hW, h1, h2, h3]
    have Hst := Lib.hid hst
    clear hst hW h1 h2 h3 HE5 HT5 HR5 HA5 HF5 Hr5 Hz5 HE4 HT4 HR4 HF4 HT3 HR3 HF3 Hg3 HT2 HF2 Hnew Hrn
    obtain ⟨T0, hT0⟩ : ∃ T0, List.replicate M 1024 = T0 := ⟨_, rfl⟩
    rw [hT0] at Hst Hpl
    clear hT0
    go_upto_block 2 with fail
    go_cut [11, 14] (fun v11 _ wx => ∃ g' cap' v r, v11 = .slice (some ⟨g', 0, none⟩) M cap' ∧ Hid (PpSt w wx pe b bm g' M cap' v (seqP N back (fun i => f i % M) T0 (min len 40)).1 (seqP N back (fun i => f i % M) T0 (min len 40)).2 r (seqP N back (fun i => f i % M) T0 (min len 40)).1 (seqP N back (fun i => f i % M) T0 (min len 40)).2))
    case first =>
      go_wp2
      go_loopw [11, 14] (fun v11 v14 wr => ∃ (i : Nat) (g' cap' : Nat) (v r : Value), i ≤ len ∧ i ≤ 40 ∧ v14 = .int .i64 (i : Int) ∧ v11 = .slice (some ⟨g', 0, none⟩) M cap' ∧ Hid (PpSt w wr pe b bm g' M cap' v (seqP N back (fun i => f i % M) T0 i).1 (seqP N back (fun i => f i % M) T0 i).2 r (seqP N back (fun i => f i % M) T0 i).1 (seqP N back (fun i => f i % M) T0 i).2)) (fun _ v14 _ => 40 - (intOf v14).toNat)
      case atStart => exact ⟨0, g, cap3, _, _, Nat.zero_le _, by omega, rfl, rfl, Hst.out⟩
      case round =>
        obtain ⟨i, g', cap', v, r, hi, hi2, rfl, rfl, HS⟩ := hrel
        clear Hst
        by_cases hlt : i < len ∧ i < 40
        · obtain ⟨hl1, hl2⟩ := hlt
          obtain ⟨eb, off, rfl, hx⟩ := Hat.out i hl1
          have c0 := HS.out.fr.cell_ hx (fun h => h)
          have hfi := Hf.out i
          have hok := seqP_ok N back (fun i => f i % M) T0 (by rw [HM.out]; exact Hpl.out) hN1 i
          have hnx : seqP N back (fun i => f i % M) T0 (i + 1) = ((seqP N back (fun i => f i % M) T0 i).1 ++ (Rc.putT (seqP N back (fun i => f i % M) T0 i).2 1 (bsAt back (f i % M) 0 N)).1, (Rc.putT (seqP N back (fun i => f i % M) T0 i).2 1 (bsAt back (f i % M) 0 N)).2.1) := rfl
          obtain ⟨O, hO⟩ : ∃ O, (seqP N back (fun i => f i % M) T0 i).1 = O := ⟨_, rfl⟩
          obtain ⟨T, hT⟩ : ∃ T, (seqP N back (fun i => f i % M) T0 i).2 = T := ⟨_, rfl⟩
          rw [hO, hT] at HS hok hnx
          obtain ⟨x, hxx⟩ : ∃ x, f i = x := ⟨_, rfl⟩
          rw [hxx] at c0 hfi hnx
          obtain ⟨y, hy⟩ : ∃ y, x % M = y := ⟨_, rfl⟩
          have hyi : (x : Int) % (M : Int) = (y : Int) := by rw [← hy]; simp
          have hyM : y < M := by rw [← hy]; exact Nat.mod_lt _ (by omega)
          rw [hy] at hnx
          obtain ⟨ho1, ho2, ho3⟩ := hok
          rw [HM.out] at ho2
          have hxi : (x : Int) < 65536 := by omega
          have hy256 : (y : Int) < 256 := by omega
          have hii : (i : Int) < 40 := by omega
          have hll : (i : Int) < (len : Int) := by omega
          have hoL : O.length ≤ 400 := by rw [ho3]; have : N * i ≤ 8 * 40 := Nat.mul_le_mul hN8 (by omega); omega
          have Hnx := Lib.hid hnx
          have Ho1 := Lib.hid ho1
          have Ho2 := Lib.hid ho2
          have HoL := Lib.hid hoL
          have HyM := Lib.hid hyM
          have hp1 := put_any pe v O b T N M M y wr HS.out.enc (by omega) HS.out.tr ho2 (by omega) hN1 HM.out.symm (by omega)
          have hp2 := put_any_back pe v O b T N M M y wr HS.out.enc (by omega) HS.out.tr ho2 (by omega) hN1 HM.out.symm (by omega)
          have Hp1 := Lib.hid hp1
          have Hp2 := Lib.hid hp2
          clear hx hnx hO hT hxx hy hyM ho1 ho2 ho3 hoL hp1 hp2 hfi
          cases back
          · clear Hp2
            go_upto_region 18 with (go_at_call 40; refine Hp1.out.mono ?_; rintro r5 w6 ⟨rfl, h1⟩; obtain ⟨v6, h2⟩ := HS.out.put h1; have HS6 := Lib.hid h2; clear h1 h2)
            obtain ⟨u0, u1, rfl, hbm⟩ := HS6.out.hm
            have m0 : w6.cell? ⟨bm, 0, none⟩ = some u0 := (cell_of hbm 0).trans rfl
            have m1 : w6.cell? ⟨bm, 1, none⟩ = some u1 := (cell_of hbm 1).trans rfl
            have hrp := ref_tree_put (.agg #[u0, u1]) (Rc.A.start.run O) g' M cap' T N y false w6 HS6.out.ra (Rc.A.Good.start.run Ho1.out) (by have := run_k Rc.A.start O; have h0 : Rc.A.start.k = 0 := rfl; have := HoL.out; omega) HS6.out.rt Ho2.out HM.out.symm (by omega) hN1 (by have := HyM.out; omega)
            have Hrp := Lib.hid hrp
            have Hbm := Lib.hid hbm
            clear hrp hbm
            go_wp2_with (go_at_call 41; refine Hrp.out.mono ?_; rintro r5 w7 ⟨r7, g7, cap7, rfl, h1, h2, h3, h4, h5⟩; obtain ⟨z0, zc, zL, zS, zo, rfl, zr⟩ := h1.ex; have hb7 := h3.keep Hbm.out (fun h => h); have k0 : w7.cell? ⟨bm, 0, none⟩ = some u0 := (cell_of hb7 0).trans rfl; have k1 : w7.cell? ⟨bm, 1, none⟩ = some u1 := (cell_of hb7 1).trans rfl; have kf0 := free_of hb7 0; have kf1 := free_of hb7 1; rw [← Rc.A.run_append] at h1; have HS7 := Lib.hid (HS6.out.ref h3 h1 h5 h2); clear h1 h2 h3 h4 h5 zo zr hb7)
            go_roundw
            case rel => exact ⟨i + 1, g7, cap7, _, _, hl1, by omega, by go_num, rfl, by rw [Hnx.out]; exact HS7⟩
            case measure => simp [intOf]; omega
          · clear Hp1
            go_upto_region 18 with (go_at_call 39; refine Hp2.out.mono ?_; rintro r5 w6 ⟨rfl, h1⟩; obtain ⟨v6, h2⟩ := HS.out.put h1; have HS6 := Lib.hid h2; clear h1 h2)
            obtain ⟨u0, u1, rfl, hbm⟩ := HS6.out.hm
            have m0 : w6.cell? ⟨bm, 0, none⟩ = some u0 := (cell_of hbm 0).trans rfl
            have m1 : w6.cell? ⟨bm, 1, none⟩ = some u1 := (cell_of hbm 1).trans rfl
            have hrp := ref_tree_put (.agg #[u0, u1]) (Rc.A.start.run O) g' M cap' T N y true w6 HS6.out.ra (Rc.A.Good.start.run Ho1.out) (by have := run_k Rc.A.start O; have h0 : Rc.A.start.k = 0 := rfl; have := HoL.out; omega) HS6.out.rt Ho2.out HM.out.symm (by omega) hN1 (by have := HyM.out; omega)
            have Hrp := Lib.hid hrp
            have Hbm := Lib.hid hbm
            clear hrp hbm
            go_wp2_with (go_at_call 41; refine Hrp.out.mono ?_; rintro r5 w7 ⟨r7, g7, cap7, rfl, h1, h2, h3, h4, h5⟩; obtain ⟨z0, zc, zL, zS, zo, rfl, zr⟩ := h1.ex; have hb7 := h3.keep Hbm.out (fun h => h); have k0 : w7.cell? ⟨bm, 0, none⟩ = some u0 := (cell_of hb7 0).trans rfl; have k1 : w7.cell? ⟨bm, 1, none⟩ = some u1 := (cell_of hb7 1).trans rfl; have kf0 := free_of hb7 0; have kf1 := free_of hb7 1; rw [← Rc.A.run_append] at h1; have HS7 := Lib.hid (HS6.out.ref h3 h1 h5 h2); clear h1 h2 h3 h4 h5 zo zr hb7)
            go_roundw
            case rel => exact ⟨i + 1, g7, cap7, _, _, hl1, by omega, by go_num, rfl, by rw [Hnx.out]; exact HS7⟩
            case measure => simp [intOf]; omega
        · have hN : i = min len 40 := by omega
          rw [hN] at HS
          by_cases hl : i < len
          · have hl' : decide (i < len) = true := by simpa using hl
            have h80 : decide ((i : Int) < 40) = false := by simp; omega
            clear hlt hN hi hi2 hl
            go_wp2
            go_meet
            exact ⟨g', cap', v, r, rfl, HS⟩
          · have hl' : decide (i < len) = false := by simpa using hl
            clear hlt hN hi hi2 hl
            go_wp2
            go_meet
            exact ⟨g', cap', v, r, rfl, HS⟩
    case rest =>
      obtain ⟨g', cap', v, r, rfl, HS⟩ := hcut
      clear Hst
      have hok := seqP_ok N back (fun i => f i % M) T0 (by rw [HM.out]; exact Hpl.out) hN1 (min len 40)
      obtain ⟨O, hO⟩ : ∃ O, (seqP N back (fun i => f i % M) T0 (min len 40)).1 = O := ⟨_, rfl⟩
      obtain ⟨T, hT⟩ : ∃ T, (seqP N back (fun i => f i % M) T0 (min len 40)).2 = T := ⟨_, rfl⟩
      rw [hO, hT] at HS hok
      obtain ⟨ho1, ho2, ho3⟩ := hok
      rw [HM.out] at ho2
      have hoL : O.length ≤ 10000 := by rw [ho3]; have : N * min len 40 ≤ 8 * 40 := Nat.mul_le_mul hN8 (by omega); omega
      obtain ⟨u0, u1, rfl, hbm⟩ := HS.out.hm
      have m0 : wc.cell? ⟨bm, 0, none⟩ = some u0 := (cell_of hbm 0).trans rfl
      have m1 : wc.cell? ⟨bm, 1, none⟩ = some u1 := (cell_of hbm 1).trans rfl
      obtain ⟨S, hE, hR⟩ := HS.out.ends hoL
      have HE := Lib.hid hE
      have HR := Lib.hid hR
      have HF0 : Hid (Fr (fun _ => False) wc wc.drew) := (Fr.refl _ _).drew
      have hne : ((M : Int) != (M : Int)) = false := by simp
      have Ho2 := Lib.hid ho2
      clear hO hT ho1 ho2 ho3 hoL hbm hE hR
      go_upto_region 19 with fail
      go_region_with (first | (go_at_call 22; (with_reducible refine (HE.out _ HF0.out).mono ?_); rintro r8 w8 ⟨rfl, h2⟩; have HF8 := Lib.hid (HF0.out.trans h2 (fun _ h => .inl h)); have m0b := HF8.out.cell_ m0 (fun h => h); have m1b := HF8.out.cell_ m1 (fun h => h); clear h2) | (go_at_call 23; (with_reducible refine (HR.out _ HF0.out).mono ?_); rintro r9 w9 ⟨rfl, h2⟩; have HF9 := Lib.hid (HF0.out.trans h2 (fun _ h => .inl h)); clear h2) | (go_at_call 22; (with_reducible refine (HE.out _ HF9.out).mono ?_); rintro r8 w10 ⟨rfl, h2⟩; have HFz := Lib.hid (HF9.out.trans h2 (fun _ h => .inl h)); clear h2) | (go_at_call 23; (with_reducible refine (HR.out _ HF8.out).mono ?_); rintro r9 w10 ⟨rfl, h2⟩; have HFz := Lib.hid (HF8.out.trans h2 (fun _ h => .inl h)); clear h2))
      all_goals have HS2 := Lib.hid (HS.out.fresh HFz.out)
      all_goals clear HS HE HR m0 m1 HFz HF0 hne
      all_goals
        go_wp2
        go_loopw [16] (fun v16 wr => ∃ i : Nat, i ≤ M ∧ v16 = .int .i64 (i : Int) ∧ Hid (PpSt w wr pe b bm g' M cap' v O T (.agg #[u0, u1]) O T)) (fun v16 _ => M - (intOf v16).toNat)
        case atStart => exact ⟨0, Nat.zero_le _, rfl, HS2.out⟩
        case round =>
          obtain ⟨i, hi, rfl, HS⟩ := hrel
          clear HS2
          by_cases hlt : i < M
          · have hii : (i : Int) < (M : Int) := by omega
            have hi0 : (0 : Int) ≤ (i : Int) := by omega
            have ht := HS.out.tr.get (k := i) (by rw [Ho2.out.len]; exact hlt)
            have hu := HS.out.rt.get (k := i) hlt
            have hpr := (Ho2.out.ok i (by rw [Ho2.out.len]; exact hlt)).2
            obtain ⟨x, hx⟩ : ∃ x, T.getD i 0 = x := ⟨_, rfl⟩
            rw [hx] at ht hu hpr
            have hcv : IntKind.u64.wrap (x : Int) = (x : Int) := IntWalk.u64_in _ (by omega)
            have hne : ((x : Int) != (x : Int)) = false := by simp
            clear hx hpr
            go_upto_region 24 with fail
            go_quiet (fail)
            go_wp2
            go_roundw
            case rel => exact ⟨i + 1, by omega, by go_num, HS.out.fresh ((Fr.refl _ _).drewN _)⟩
            case measure => simp [intOf]; omega
          · obtain rfl : i = M := by omega
            go_wp2
            go_ret
            exact ⟨rfl, HS.out.fr⟩
end Go.Proofs.Ytpddocehjljofaa
