/- Walks of layer 23's reference: primes, powers by digits, roots, constants. -/
import Derived.Test.YtmcenocmilhekaaDoorSh5
import Derived.Test.YtmcenocmilhekaaDoorShR
namespace Go.Proofs.YtmcenocmilhekaaDoor
set_option linter.unusedVariables false
open Go.RowKit Go.My Go.Sha

set_option maxHeartbeats 2000000 in
set_option maxRecDepth 100000 in
theorem prime_is (i : Nat) (hi : i < 64) (w : World) :
    Calls Tryd.prog 20 #[.int .i64 (i : Int)] w fun e w' => e = .returned (.int .u64 (pr i : Nat)) ∧ w = w' := by
  have hiI : (i : Int) < 64 := by omega
  go_enter Tryd.func20, Tryd.ntmps20
  go_wp2
  go_loop [3, 4] (fun v3 v4 => ∃ j : Nat, j ≤ i + 1 ∧ v3 = .int .u64 ((if j = 0 then 1 else pr (j - 1) : Nat) : Int) ∧ v4 = .int .i64 ((j : Int) - 1)) (fun _ v4 => i + 1 - (intOf v4 + 1).toNat)
  case atStart => exact ⟨0, by omega, rfl, rfl⟩
  case round =>
    obtain ⟨j, hj, rfl, rfl⟩ := hrel
    by_cases hlt : j < i + 1
    · obtain ⟨P, hP⟩ : ∃ P, pr j = P := ⟨_, rfl⟩
      obtain ⟨p0, hp0⟩ : ∃ p0, (if j = 0 then 1 else pr (j - 1)) = p0 := ⟨_, rfl⟩
      obtain ⟨b1, b2, b3⟩ := pr_bounds j (by omega)
      have hlo : lo j = p0 := hp0
      rw [hlo] at b1 b3
      rw [hP] at b1 b2
      have hwh := pr_whole j (by omega)
      have hnx := pr_next j (by omega)
      rw [hP] at hwh hnx
      rw [hlo] at hnx
      rw [hp0]
      have Hwh := Lib.hid hwh
      have Hnx := Lib.hid hnx
      have hc : ((j : Int) - 1 < (i : Int)) := by omega
      have HP := Lib.hid hP
      clear hwh hnx hlo hp0 hP
      go_wp2
      go_loop [3] (fun v3 => ∃ n : Nat, p0 < n ∧ n ≤ P ∧ v3 = .int .u64 (n : Int)) (fun v3 => P - (intOf v3).toNat)
      case atStart => exact ⟨p0 + 1, by omega, by omega, by go_num⟩
      case round =>
        obtain ⟨n, hn1, hn2, rfl⟩ := hrel
        obtain ⟨D, hD⟩ : ∃ D, dEnd n = D := ⟨_, rfl⟩
        have hD2 : 2 ≤ D ∧ D ≤ 18 := by rw [← hD]; exact dEnd_ge n (by omega)
        have hDd : ∀ d, 2 ≤ d → (d * d ≤ n ↔ d < D) := by rw [← hD]; exact fun d hd => dEnd_is n d (by omega) hd
        have hW : whole n = upTo n (D - 2) := by unfold whole; rw [hD]
        have HDd := Lib.hid hDd
        have HW := Lib.hid hW
        clear hDd hW hD
        go_wp2
        go_loop [5, 6] (fun v5 v6 => ∃ d : Nat, 2 ≤ d ∧ d ≤ D ∧ v6 = .int .u64 (d : Int) ∧ v5 = .bool (upTo n (d - 2))) (fun _ v6 => D - (intOf v6).toNat)
        case atStart => exact ⟨2, by omega, by omega, rfl, rfl⟩
        case round =>
          obtain ⟨d, hd1, hd2, rfl, rfl⟩ := hrel
          obtain ⟨q, hq⟩ : ∃ q : Nat, d * d = q := ⟨_, rfl⟩
          have hqq : (d : Int) * (d : Int) = (q : Int) := by rw [← hq]; simp
          have hq3 : q ≤ 324 := by rw [← hq]; exact Nat.mul_le_mul (show d ≤ 18 by omega) (show d ≤ 18 by omega)
          by_cases hld : d < D
          · have hle : q ≤ n := by rw [← hq]; exact (HDd.out d hd1).2 hld
            have hup : upTo n (d + 1 - 2) = (upTo n (d - 2) && decide (n % d ≠ 0)) := by
              rw [show d + 1 - 2 = (d - 2) + 1 by omega, upTo, show d - 2 + 2 = d by omega]
            have Hup := Lib.hid hup
            have hd0 : ¬ d = 0 := by omega
            by_cases hm : n % d = 0
            · have hmI : (n : Int) % (d : Int) = 0 := by exact_mod_cast hm
              have Hm := Lib.hid hm
              clear hup hq hm
              go_wp2
              go_round
              case rel => exact ⟨d + 1, by omega, by omega, by go_num, by rw [Hup.out, Hm.out]; simp⟩
              case measure => simp [intOf]; omega
            · have hmI : ((n : Int) % (d : Int) == 0) = false := by
                have : ¬ ((n : Int) % (d : Int) = 0) := by exact_mod_cast hm
                simp [this]
              have Hm := Lib.hid hm
              clear hup hq hm
              go_wp2
              go_round
              case rel => exact ⟨d + 1, by omega, by omega, by go_num, by rw [Hup.out, decide_eq_true Hm.out]; simp⟩
              case measure => simp [intOf]; omega
          · obtain rfl : d = D := by omega
            have hle : ¬ q ≤ n := by rw [← hq]; exact fun h => hld ((HDd.out d hd1).1 h)
            rw [← HW.out]
            by_cases hnP : n = P
            · subst hnP
              rw [Hwh.out]
              clear hq hld
              go_wp2
              go_round
              case rel => exact ⟨j + 1, by omega, by rw [if_neg (by omega), Nat.add_sub_cancel, HP.out], by go_num⟩
              case measure => simp [intOf]; omega
            · rw [Hnx.out n (by omega) hn1 (by omega)]
              clear hq hld
              go_wp2
              go_round
              case rel => exact ⟨n + 1, by omega, by omega, by go_num⟩
              case measure => simp [intOf]; omega
    · obtain rfl : j = i + 1 := by omega
      have hne : (if i + 1 = 0 then 1 else pr (i + 1 - 1)) = pr i := by rw [if_neg (by omega), Nat.add_sub_cancel]
      rw [hne]
      have e : ((i + 1 : Nat) : Int) - 1 = (i : Int) := by omega
      rw [e]
      clear hlt hj hne e
      go_wp2
      go_ret
      exact ⟨rfl, rfl⟩

/-- Words of 64 bits as cells. -/
def u64s (l : List Nat) : Array Value := (l.map fun x : Nat => Value.int .u64 (x : Int)).toArray
theorem u64s_size (l : List Nat) : (u64s l).size = l.length := by simp [u64s]
theorem u64s_get (l : List Nat) (i : Nat) (h : i < l.length) : (u64s l)[i]? = some (.int .u64 (l.getD i 0 : Nat)) := by simp [u64s, h, List.getD]
theorem u64s_set (l : List Nat) (i x : Nat) : (u64s l).setIfInBounds i (.int .u64 (x : Int)) = u64s (l.set i x) := by simp [u64s, List.map_set]
theorem u64s_one (l : List Nat) : ∀ v ∈ (u64s l).toList, v.oneCell' = true := fun v hv => by
  simp only [u64s, List.mem_map] at hv
  obtain ⟨_, _, rfl⟩ := hv
  rfl
theorem dig_length (x : Nat) : (dig x).length = 8 := rfl
theorem mulN_length (out d : List Nat) (i : Nat) : (mulN out d i).length = 8 := by
  induction i with
  | zero => rfl
  | succ i ih => simp [mulN, mulB, mulA, ih]
theorem carN_length (l : List Nat) (i : Nat) : (carN l i).length = l.length := by
  induction i with
  | zero => rfl
  | succ i ih => simp [carN, carB, carA, ih]
theorem facN_length (x k : Nat) : (facN x k).length = 8 := by
  cases k with
  | zero => rfl
  | succ k => simp [facN, carN_length, mulN_length]
theorem golN_length (v a i : Nat) : (golN v a i).1.length = 8 := by
  induction i with
  | zero => rfl
  | succ i ih => simp [golN, ih]

theorem golN_le (v a i : Nat) : (golN v a i).2 ≤ v := by
  induction i with
  | zero => exact Nat.le_refl _
  | succ i ih => exact Nat.le_trans (Nat.div_le_self _ _) ih
theorem dblN_lt (v i : Nat) (hv : v < 18446744073709551616) : dblN v i < 18446744073709551616 := by
  cases i with
  | zero => exact hv
  | succ i => exact Nat.mod_lt _ (by decide)
theorem wrap_dv (a : Nat) (h : a < 18446744073709551616) : IntKind.u64.wrap ((a : Int) / 262144) = ((a / 262144 : Nat) : Int) := by
  rw [IntKind.wrap_u64]; omega

/-- What stands in the arrays: d, out. -/
structure MoSt (w wr : World) (x : Nat) (out : List Nat) (p7 p8 : Nat) : Prop where
  fr : Fr (fun _ => False) w wr
  b7 : wr.heap[p7]? = some (.cells (u64s (dig x)) 52 (0, 0))
  b8 : wr.heap[p8]? = some (.cells (u64s out) 52 (0, 0))
theorem MoSt.keep {w wr w' : World} {x : Nat} {out : List Nat} {p7 p8 p : Nat} (h : MoSt w wr x out p7 p8) (hf : Fr (fun k => k = p) wr w') (h7 : p7 ≠ p) (h8 : p8 ≠ p) (hp : w.heap.size ≤ p) : MoSt w w' x out p7 p8 :=
  ⟨h.fr.trans hf (fun k hk => .inr (by omega)), hf.keep h.b7 h7, hf.keep h.b8 h8⟩

theorem wrap_ma (a b c : Nat) : IntKind.u64.wrap ((a : Int) + IntKind.u64.wrap ((b : Int) * (c : Int))) = (((a + b * c) % M64 : Nat) : Int) := by
  simp [IntKind.wrap_u64, M64]
theorem wrap_da (a b : Nat) : IntKind.u64.wrap ((a : Int) + IntKind.u64.wrap ((b : Int) / 262144)) = (((a + b / 262144) % M64 : Nat) : Int) := by
  simp [IntKind.wrap_u64, M64]
theorem wrap_re (a : Nat) : (a : Int) % 262144 = ((a % 262144 : Nat) : Int) := by simp
structure MnSt (w wr : World) (x : Nat) (out l : List Nat) (p7 p8 pn : Nat) : Prop where
  mo : MoSt w wr x out p7 p8
  bn : wr.heap[pn]? = some (.cells (u64s l) 52 (0, 0))
  n7 : p7 ≠ pn
  n8 : p8 ≠ pn
  base : w.heap.size ≤ pn
theorem MnSt.set {w wr : World} {x : Nat} {out l : List Nat} {p7 p8 pn : Nat} (h : MnSt w wr x out l p7 p8 pn) (j v : Nat) : MnSt w (wr.setCell ⟨pn, j, none⟩ (.int .u64 (v : Int))) x out (l.set j v) p7 p8 pn :=
  ⟨h.mo.keep ((Fr.refl (fun k => k = pn) wr).setCell ⟨pn, j, none⟩ _ (.inl rfl)) h.n7 h.n8 h.base, by have := block_setCell h.bn (.int .u64 (v : Int)) (off := j); rwa [u64s_set] at this, h.n7, h.n8, h.base⟩
theorem MnSt.drew {w wr : World} {x : Nat} {out l : List Nat} {p7 p8 pn : Nat} (h : MnSt w wr x out l p7 p8 pn) : MnSt w wr.drew x out l p7 p8 pn := ⟨⟨h.mo.fr.drew, h.mo.b7, h.mo.b8⟩, h.bn, h.n7, h.n8, h.base⟩
theorem MnSt.make {w wr : World} {x : Nat} {out : List Nat} {p7 p8 : Nat} (h : MoSt w wr x out p7 p8) (l : List Nat) : MnSt w (wr.alloc (.cells (u64s l) 52)) x out l p7 p8 wr.heap.size :=
  ⟨⟨h.fr.alloc _, block_alloc h.b7, block_alloc h.b8⟩, heap_alloc_new wr _, by have := lt_of_block h.b7; omega, by have := lt_of_block h.b8; omega, h.fr.size⟩
theorem MnSt.cn {w wr : World} {x : Nat} {out l : List Nat} {p7 p8 pn : Nat} (h : MnSt w wr x out l p7 p8 pn) (hl : l.length = 8) (j : Nat) (hj : j < 8) (v : Nat) (hv : l.getD j 0 = v) : wr.cell? ⟨pn, j, none⟩ = some (.int .u64 (v : Int)) := by
  rw [cell_of h.bn j, u64s_get l j (by omega), hv]
theorem MoSt.c8 {w wr : World} {x : Nat} {out : List Nat} {p7 p8 : Nat} (h : MoSt w wr x out p7 p8) (hl : out.length = 8) (j : Nat) (hj : j < 8) (v : Nat) (hv : out.getD j 0 = v) : wr.cell? ⟨p8, j, none⟩ = some (.int .u64 (v : Int)) := by
  rw [cell_of h.b8 j, u64s_get out j (by omega), hv]
theorem MoSt.c7 {w wr : World} {x : Nat} {out : List Nat} {p7 p8 : Nat} (h : MoSt w wr x out p7 p8) (j : Nat) (hj : j < 8) (v : Nat) (hv : (dig x).getD j 0 = v) : wr.cell? ⟨p7, j, none⟩ = some (.int .u64 (v : Int)) := by
  rw [cell_of h.b7 j, u64s_get (dig x) j hj, hv]

set_option maxHeartbeats 4000000 in
set_option maxRecDepth 100000 in
theorem most_is (x p f : Nat) (hx : x < 18446744073709551616) (hp : p < 18446744073709551616) (hf1 : 1 ≤ f) (hf : f ≤ 3) (w : World) :
    Calls Tryd.prog 27 #[.int .u64 (x : Int), .int .u64 (p : Int), .int .i64 (f : Int)] w fun e w' => e = .returned (.bool (mostB x p f)) ∧ Fr (fun _ => False) w w' := by
  have hfI : (f : Int) ≤ 3 := by omega
  obtain ⟨X1, hX1⟩ : ∃ X1, x % 262144 = X1 := ⟨_, rfl⟩
  obtain ⟨X2, hX2⟩ : ∃ X2, x / 262144 = X2 := ⟨_, rfl⟩
  have e1 : (x : Int) % 262144 = (X1 : Int) := by omega
  have e2 : IntKind.u64.wrap ((x : Int) / 262144) = (X2 : Int) := by rw [IntKind.wrap_u64]; omega
  have hdig : [X1, X2, 0, 0, 0, 0, 0, 0] = dig x := by rw [← hX1, ← hX2]; rfl
  have Hdig := Lib.hid hdig
  have E1 := Lib.hid e1
  have E2 := Lib.hid e2
  have Hp := Lib.hid hp
  have Hx := Lib.hid hx
  clear hp hx e1 e2 hdig hX1 hX2
  go_enter Tryd.func27, Tryd.ntmps27
  go_upto_block 0 with fail
  rw [E1.out, E2.out]
  show Code.wp _ _ _ _ ((w.alloc (.cells (u64s [X1, X2, 0, 0, 0, 0, 0, 0]) 52)).alloc (.cells (u64s [X1, X2, 0, 0, 0, 0, 0, 0]) 52))
  rw [Hdig.out]
  have hst : ∃ p7 p8 W, w.heap.size = p7 ∧ w.heap.size + 1 = p8 ∧ (w.alloc (.cells (u64s (dig x)) 52)).alloc (.cells (u64s (dig x)) 52) = W ∧ MoSt w W x (facN x 0) p7 p8 :=
    ⟨_, _, _, rfl, rfl, rfl, ⟨((Fr.refl _ w).alloc _).alloc _, block_alloc (heap_alloc_new w _), by
      have h := heap_alloc_new (w.alloc (.cells (u64s (dig x)) 52)) (.cells (u64s (dig x)) 52)
      rwa [show (w.alloc (.cells (u64s (dig x)) 52)).heap.size = w.heap.size + 1 by simp] at h⟩⟩
  obtain ⟨p7, p8, W, q7, q8, qW, hM⟩ := hst
  rw [qW, q8, q7]
  have hl7 : w.heap.size ≤ p7 := by omega
  have hl8 : w.heap.size ≤ p8 := by omega
  have n78 : p7 ≠ p8 := by omega
  have HM := Lib.hid hM
  clear qW q7 q8 hM E1 E2
  go_cut [9] (fun _ wx => Hid (MoSt w wx x (facN x (f - 1)) p7 p8))
  case first =>
    go_wp2
    go_loopw [9] (fun v9 wr => ∃ k : Nat, 1 ≤ k ∧ k ≤ f ∧ v9 = .int .i64 (k : Int) ∧ Hid (MoSt w wr x (facN x (k - 1)) p7 p8)) (fun v9 _ => f - (intOf v9).toNat)
    case atStart => exact ⟨1, by omega, by omega, rfl, HM⟩
    case round =>
      obtain ⟨k, hk1, hk2, rfl, KM⟩ := hrel
      clear HM
      by_cases hlt : k < f
      · obtain ⟨out, hout⟩ : ∃ out, facN x (k - 1) = out := ⟨_, rfl⟩
        have hol : out.length = 8 := by rw [← hout]; exact facN_length _ _
        have hnext : facN x k = carN (mulN out (dig x) 6) 7 := by
          rw [← hout]
          obtain ⟨k', rfl⟩ : ∃ k', k = k' + 1 := ⟨k - 1, by omega⟩
          rfl
        rw [hout] at KM
        have Hol := Lib.hid hol
        have Hnext := Lib.hid hnext
        clear hout hol hnext
        obtain ⟨d0, hd0⟩ : ∃ d0, (dig x).getD 0 0 = d0 := ⟨_, rfl⟩
        obtain ⟨d1, hd1⟩ : ∃ d1, (dig x).getD 1 0 = d1 := ⟨_, rfl⟩
        have Hd0 := Lib.hid hd0
        have Hd1 := Lib.hid hd1
        clear hd0 hd1
        go_upto_block 2 with fail
        show Code.wp _ _ _ _ (wr.alloc (.cells (u64s (mulN out (dig x) 0)) 52))
        have hN := MnSt.make KM.out (mulN out (dig x) 0)
        generalize wr.heap.size = pn at *
        generalize wr.alloc (.cells (u64s (mulN out (dig x) 0)) 52) = W2 at *
        have HN := Lib.hid hN
        clear hN KM
        go_cut [11] (fun _ wx => Hid (MnSt w wx x out (mulN out (dig x) 6) p7 p8 pn))
        case first =>
          go_wp2
          go_loopw [11] (fun v11 wr => ∃ i : Nat, i ≤ 6 ∧ v11 = .int .i64 (i : Int) ∧ Hid (MnSt w wr x out (mulN out (dig x) i) p7 p8 pn)) (fun v11 _ => 6 - (intOf v11).toNat)
          case atStart => exact ⟨0, by omega, rfl, HN⟩
          case round =>
            obtain ⟨i, hi, rfl, IM⟩ := hrel
            clear HN
            by_cases hli : i < 6
            · obtain ⟨l, hl⟩ : ∃ l, mulN out (dig x) i = l := ⟨_, rfl⟩
              have hll : l.length = 8 := by rw [← hl]; exact mulN_length _ _ _
              have hm : mulN out (dig x) (i + 1) = mulB out (dig x) (mulA out (dig x) l i) i := by rw [← hl]; rfl
              rw [hl] at IM
              obtain ⟨a1, ha1⟩ : ∃ a1, l.getD i 0 = a1 := ⟨_, rfl⟩
              obtain ⟨a2, ha2⟩ : ∃ a2, out.getD i 0 = a2 := ⟨_, rfl⟩
              obtain ⟨l2, hl2⟩ : ∃ l2, mulA out (dig x) l i = l2 := ⟨_, rfl⟩
              have hl2' : l.set i ((a1 + a2 * d0) % M64) = l2 := by rw [← hl2]; unfold mulA; rw [ha1, ha2, Hd0.out]
              have hll2 : l2.length = 8 := by rw [← hl2', List.length_set, hll]
              obtain ⟨a3, ha3⟩ : ∃ a3, l2.getD (i + 1) 0 = a3 := ⟨_, rfl⟩
              have c1 := IM.out.cn hll i (by omega) a1 ha1
              have c2 := IM.out.mo.c8 Hol.out i (by omega) a2 ha2
              have c3 := IM.out.mo.c7 0 (by omega) d0 Hd0.out
              have f1 := free_of IM.out.bn
              have S1 := Lib.hid (IM.out.set i ((a1 + a2 * d0) % M64)).drew
              rw [hl2'] at S1
              rw [hl2] at hm
              have hm2 : mulN out (dig x) (i + 1) = l2.set (i + 1) ((a3 + a2 * d1) % M64) := by rw [hm]; unfold mulB; rw [ha3, ha2, Hd1.out]
              have hi0 : (0 : Int) ≤ (i : Int) := by omega
              have hi8 : (i : Int) < 8 := by omega
              have hi9 : (i : Int) + 1 < 8 := by omega
              have v1 := wrap_ma a1 a2 d0
              have v2 := wrap_ma a3 a2 d1
              have V1 := Lib.hid v1
              have V2 := Lib.hid v2
              have Hm2 := Lib.hid hm2
              have Hll2 := Lib.hid hll2
              have Ha2 := Lib.hid ha2
              have Ha3 := Lib.hid ha3
              clear hl hll hm ha1 hl2 hl2' v1 v2 hm2 hll2 ha2 ha3
              go_upto_region 10 with fail
              go_region
              rw [V1.out]
              generalize (wr.setCell ⟨pn, i, none⟩ (.int .u64 (((a1 + a2 * d0) % M64 : Nat) : Int))).drew = W3 at *
              have c4 := S1.out.cn Hll2.out (i + 1) (by omega) a3 Ha3.out
              have c5 := S1.out.mo.c8 Hol.out i (by omega) a2 Ha2.out
              have c6 := S1.out.mo.c7 1 (by omega) d1 Hd1.out
              have f2 := free_of S1.out.bn
              have S2 := Lib.hid (S1.out.set (i + 1) ((a3 + a2 * d1) % M64)).drew
              clear c1 c2 c3 f1 S1
              go_wp2
              go_region
              rw [V2.out]
              go_wp2
              go_roundw
              case rel => exact ⟨i + 1, by omega, by go_num, by rw [Hm2.out]; exact S2⟩
              case measure => simp [intOf]; omega
            · obtain rfl : i = 6 := by omega
              clear hli hi
              go_wp2
              go_meet
              exact IM
        case rest =>
          have JM := hcut
          clear hcut HN
          have hml : (mulN out (dig x) 6).length = 8 := mulN_length _ _ _
          generalize mulN out (dig x) 6 = m at *
          have Hml := Lib.hid hml
          clear hml
          go_upto_block 4 with fail
          go_cut [12] (fun _ wx => Hid (MnSt w wx x out (carN m 7) p7 p8 pn))
          case first =>
            go_wp2
            go_loopw [12] (fun v12 wr => ∃ i : Nat, i ≤ 7 ∧ v12 = .int .i64 (i : Int) ∧ Hid (MnSt w wr x out (carN m i) p7 p8 pn)) (fun v12 _ => 7 - (intOf v12).toNat)
            case atStart => exact ⟨0, by omega, rfl, JM⟩
            case round =>
              obtain ⟨i, hi, rfl, IM⟩ := hrel
              clear JM
              by_cases hli : i < 7
              · obtain ⟨l, hl⟩ : ∃ l, carN m i = l := ⟨_, rfl⟩
                have hll : l.length = 8 := by rw [← hl, carN_length]; exact Hml.out
                have hm : carN m (i + 1) = carB (carA l i) i := by rw [← hl]; rfl
                rw [hl] at IM
                obtain ⟨a1, ha1⟩ : ∃ a1, l.getD (i + 1) 0 = a1 := ⟨_, rfl⟩
                obtain ⟨a2, ha2⟩ : ∃ a2, l.getD i 0 = a2 := ⟨_, rfl⟩
                obtain ⟨l2, hl2⟩ : ∃ l2, carA l i = l2 := ⟨_, rfl⟩
                have hl2' : l.set (i + 1) ((a1 + a2 / 262144) % M64) = l2 := by rw [← hl2]; unfold carA; rw [ha1, ha2]
                have hll2 : l2.length = 8 := by rw [← hl2', List.length_set, hll]
                have ha3 : l2.getD i 0 = a2 := by rw [← hl2', ← ha2]; simp [List.getD, List.getElem?_set_ne]
                have c1 := IM.out.cn hll (i + 1) (by omega) a1 ha1
                have c2 := IM.out.cn hll i (by omega) a2 ha2
                have f1 := free_of IM.out.bn
                have S1 := Lib.hid (IM.out.set (i + 1) ((a1 + a2 / 262144) % M64)).drew
                rw [hl2'] at S1
                rw [hl2] at hm
                have hm2 : carN m (i + 1) = l2.set i (a2 % 262144) := by rw [hm]; unfold carB; rw [ha3]
                have hi0 : (0 : Int) ≤ (i : Int) := by omega
                have hi8 : (i : Int) < 8 := by omega
                have hi9 : (i : Int) + 1 < 8 := by omega
                have V1 := Lib.hid (wrap_da a1 a2)
                have V2 := Lib.hid (wrap_re a2)
                have Hm2 := Lib.hid hm2
                have Hll2 := Lib.hid hll2
                have Ha3 := Lib.hid ha3
                clear hl hll hm ha1 hl2 hl2' hm2 hll2 ha2 ha3
                go_upto_region 15 with fail
                go_region
                rw [V1.out]
                generalize (wr.setCell ⟨pn, i + 1, none⟩ (.int .u64 (((a1 + a2 / 262144) % M64 : Nat) : Int))).drew = W3 at *
                have c4 := S1.out.cn Hll2.out i (by omega) a2 Ha3.out
                have f2 := free_of S1.out.bn
                have S2 := Lib.hid (S1.out.set i (a2 % 262144))
                clear c1 c2 f1 S1
                go_wp2
                rw [V2.out]
                go_roundw
                case rel => exact ⟨i + 1, by omega, by go_num, by rw [Hm2.out]; exact S2⟩
                case measure => simp [intOf]; omega
              · obtain rfl : i = 7 := by omega
                clear hli hi
                go_wp2
                go_meet
                exact IM
          case rest =>
            have IM := hcut
            clear hcut JM
            rw [← Hnext.out] at IM
            have hsz : (u64s (facN x k)).size = 8 := by rw [u64s_size, facN_length]
            have hall := u64s_one (facN x k)
            have hsz0 : (u64s out).size = 8 := by rw [u64s_size, Hol.out]
            obtain ⟨A, hA⟩ : ∃ A, u64s (facN x k) = A := ⟨_, rfl⟩
            have hbn := IM.out.bn
            rw [hA] at hbn hsz hall
            have r1 : (loadVar 52 ⟨pn, 0, none⟩).run Tryd.prog wc = .ok (.agg A) wc :=
              run_loadVar_row _ _ _ _ _ _ _ hbn Tryd.underlying52 rfl (by rw [hsz]; kernel_rfl)
            have r2 : (storeVar 52 ⟨p8, 0, none⟩ (.agg A)).run Tryd.prog wc = .ok () (wc.setRow p8 A) :=
              run_storeVar_row _ _ _ _ _ _ IM.out.mo.b8 (by rw [hsz]; kernel_rfl) (by rw [hsz, hsz0]) (by rw [Array.all_eq_true_iff_forall_mem]; intro v hv; exact hall v (by simpa using hv))
            have hM2 : MoSt w (wc.setRow p8 A) x (facN x k) p7 p8 :=
              ⟨fr_setRow IM.out.mo.fr p8 A (.inr hl8), block_setRow_other IM.out.mo.b7 n78, by rw [hA]; exact block_setRow IM.out.mo.b8⟩
            have R1 := Lib.hid r1
            have R2 := Lib.hid r2
            have HM2 := Lib.hid hM2
            clear hsz hall hsz0 hA hbn r1 r2 hM2
            go_wp2_with (first | refine wpList_load_arr rfl 52 _ rfl rfl R1.out ?_ | refine wpList_store_arr rfl 52 _ _ rfl rfl rfl R2.out ?_)
            go_roundw
            case rel => exact ⟨k + 1, by omega, by omega, by go_num, HM2⟩
            case measure => simp [intOf]; omega
      · obtain rfl : k = f := by omega
        clear hlt
        go_wp2
        go_meet
        exact KM
  case rest =>
    have KM := hcut
    clear hcut HM
    have hfl := facN_length x (f - 1)
    have hmb : mostB x p f = cmpN (facN x (f - 1)) (gol p f) 8 := rfl
    obtain ⟨out, hout⟩ : ∃ out, facN x (f - 1) = out := ⟨_, rfl⟩
    rw [hout] at KM hfl hmb
    have Hfl := Lib.hid hfl
    have Hmb := Lib.hid hmb
    clear hfl hmb hout
    obtain ⟨A, hA⟩ : ∃ A, 32 * f / 18 = A := ⟨_, rfl⟩
    obtain ⟨Bt, hBt⟩ : ∃ Bt, 32 * f % 18 = Bt := ⟨_, rfl⟩
    have q1 : 32 * (f : Int) / 18 = (A : Int) := by omega
    have q2 : 32 * (f : Int) % 18 = (Bt : Int) := by omega
    have hA5 : A ≤ 5 := by omega
    have hB17 : Bt ≤ 17 := by omega
    have hgol : gol p f = (golN (dblN p Bt) A (8 - A)).1 := by unfold gol; rw [hA, hBt]
    have Hgol := Lib.hid hgol
    clear hA hBt hgol
    have Q1 := Lib.hid q1
    have Q2 := Lib.hid q2
    clear q1 q2
    go_upto_block 6 with fail
    rw [Q1.out, Q2.out]
    show Code.wp _ _ _ _ (wc.alloc (.cells (u64s [0, 0, 0, 0, 0, 0, 0, 0]) 52))
    have hN := MnSt.make KM.out [0, 0, 0, 0, 0, 0, 0, 0]
    generalize wc.heap.size = pg at *
    generalize wc.alloc (.cells (u64s [0, 0, 0, 0, 0, 0, 0, 0]) 52) = W2 at *
    have HN := Lib.hid hN
    clear hN KM
    go_cut [17, 18] (fun v17 _ wx => v17 = .int .u64 (dblN p Bt : Nat) ∧ wx = W2)
    case first =>
      go_wp2
      go_loop [17, 18] (fun v17 v18 => ∃ i : Nat, i ≤ Bt ∧ v17 = .int .u64 (dblN p i : Nat) ∧ v18 = .int .i64 (i : Int)) (fun _ v18 => Bt - (intOf v18).toNat)
      case atStart => exact ⟨0, by omega, rfl, rfl⟩
      case round =>
        obtain ⟨i, hi, rfl, rfl⟩ := hrel
        by_cases hli : i < Bt
        · have hd : dblN p (i + 1) = dblN p i * 2 % M64 := rfl
          have Hd := Lib.hid hd
          clear hd
          generalize dblN p i = D at *
          go_wp2
          go_round
          case rel => exact ⟨i + 1, by omega, by rw [Hd.out]; first | (simp [M64]; done) | (simp [M64, IntKind.wrap_u64]; done), by go_num⟩
          case measure => simp [intOf]; omega
        · obtain rfl : i = Bt := by omega
          go_wp2
          go_meet
          exact ⟨rfl, rfl⟩
    case rest =>
      obtain ⟨rfl, rfl⟩ := hcut
      have HV0 := Lib.hid (dblN_lt p Bt Hp.out)
      generalize dblN p Bt = V0 at *
      have hA0 : (A : Int) ≤ 5 := by omega
      go_upto_block 8 with fail
      go_cut [17, 19] (fun _ _ wx => Hid (MnSt w wx x out (gol p f) p7 p8 pg))
      case first =>
        go_wp2
        go_loopw [17, 19] (fun v17 v19 wr => ∃ i : Nat, i ≤ 8 - A ∧ v19 = .int .i64 ((A + i : Nat) : Int) ∧ v17 = .int .u64 ((golN V0 A i).2 : Nat) ∧ Hid (MnSt w wr x out (golN V0 A i).1 p7 p8 pg)) (fun _ v19 _ => 8 - (intOf v19).toNat)
        case atStart => exact ⟨0, by omega, rfl, rfl, HN⟩
        case round =>
          obtain ⟨i, hi, rfl, rfl, IM⟩ := hrel
          clear HN
          by_cases hli : A + i < 8
          · obtain ⟨G, hG⟩ : ∃ G, golN V0 A i = G := ⟨_, rfl⟩
            have hgl := golN_length V0 A i
            have hvle := golN_le V0 A i
            have hgn : golN V0 A (i + 1) = (G.1.set (A + i) (G.2 % 262144), G.2 / 262144) := by rw [← hG]; rfl
            rw [hG] at IM hgl hvle
            rw [hG]
            obtain ⟨l, v⟩ := G
            dsimp only at IM hgl hvle ⊢
            obtain ⟨q, hq⟩ : ∃ q, A + i = q := ⟨_, rfl⟩
            rw [hq] at hgn hli
            rw [hq]
            have c1 := IM.out.cn hgl q (by omega) (l.getD q 0) rfl
            have f1 := free_of IM.out.bn
            have S1 := Lib.hid (IM.out.set q (v % 262144))
            have V1 := Lib.hid (wrap_re v)
            have V2 := Lib.hid (wrap_dv v (Nat.lt_of_le_of_lt hvle HV0.out))
            have Hgn := Lib.hid hgn
            have hq0 : (0 : Int) ≤ (q : Int) := by omega
            have hq8 : (q : Int) < 8 := by omega
            have hqI : Hid (q = A + i) := hq.symm
            clear hgn hq hG hvle
            go_wp2
            rw [V1.out, V2.out]
            go_roundw
            case rel => exact ⟨i + 1, by have := hqI.out; omega, by have := hqI.out; go_num, by rw [Hgn.out], by rw [Hgn.out]; exact S1⟩
            case measure => simp [intOf]; omega
          · obtain rfl : i = 8 - A := by omega
            have e8 : A + (8 - A) = 8 := by omega
            rw [e8]
            rw [← Hgol.out] at IM
            generalize (golN V0 A (8 - A)).2 = v2 at *
            clear hli hi e8
            go_wp2
            go_meet
            exact IM
      case rest =>
        have IM := hcut
        clear hcut HN
        have hgl : (gol p f).length = 8 := golN_length _ _ _
        generalize gol p f = gl at *
        have Hgl := Lib.hid hgl
        clear hgl
        go_wp2
        go_loopw [20] (fun v20 wr => ∃ j : Nat, j ≤ 8 ∧ v20 = .int .i64 ((j : Int) - 1) ∧ Hid (cmpN out gl 8 = cmpN out gl j) ∧ Hid (MnSt w wr x out gl p7 p8 pg)) (fun v20 _ => (intOf v20 + 1).toNat)
        case atStart => exact ⟨8, by omega, rfl, rfl, IM⟩
        case round =>
          obtain ⟨j, hj, rfl, hc, JM⟩ := hrel
          clear IM
          by_cases hj0 : j = 0
          · subst hj0
            go_wp2
            go_ret
            exact ⟨by rw [Hmb.out, hc.out]; rfl, JM.out.mo.fr⟩
          · obtain ⟨k, rfl⟩ : ∃ k, j = k + 1 := ⟨j - 1, by omega⟩
            have ek : ((k + 1 : Nat) : Int) - 1 = (k : Int) := by omega
            rw [ek]
            obtain ⟨a1, ha1⟩ : ∃ a1, out.getD k 0 = a1 := ⟨_, rfl⟩
            obtain ⟨a2, ha2⟩ : ∃ a2, gl.getD k 0 = a2 := ⟨_, rfl⟩
            have c1 := JM.out.mo.c8 Hfl.out k (by omega) a1 ha1
            have c2 := JM.out.cn Hgl.out k (by omega) a2 ha2
            have hcc : cmpN out gl (k + 1) = if a1 = a2 then cmpN out gl k else decide (a1 < a2) := by rw [← ha1, ← ha2]; rfl
            have hk0 : (0 : Int) ≤ (k : Int) := by omega
            have hk8 : (k : Int) < 8 := by omega
            clear ha1 ha2 ek hj0
            by_cases he : a1 = a2
            · subst he
              rw [if_pos rfl] at hcc
              have Hcc := Lib.hid (hc.out.trans hcc)
              clear hcc hc
              go_wp2
              go_region
              go_wp2
              go_roundw
              case rel => exact ⟨k, by omega, by go_num, Hcc.out, JM.out.drew⟩
              case measure => simp [intOf]
            · rw [if_neg he] at hcc
              have Hcc := Lib.hid (hc.out.trans hcc)
              have heI : ((a1 : Int) == (a2 : Int)) = false := by
                have : ¬ ((a1 : Int) = (a2 : Int)) := by omega
                simp [this]
              clear hcc hc
              go_wp2
              go_region
              go_wp2
              go_region
              go_wp2
              go_ret
              exact ⟨by rw [Hmb.out, Hcc.out]; simp, JM.out.mo.fr.drew.drew⟩
end Go.Proofs.YtmcenocmilhekaaDoor
