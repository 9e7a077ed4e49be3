/- Walks of layer 23 (sha): a chunk spread to words. -/
import Derived.Test.YtmcenocmilhekaaDoorSh1
import Derived.Test.YtmcenocmilhekaaDoorArr
import Derived.Deep.RegionHeld3
import Derived.Deep.MidRow
import Derived.BigRegion
import Derived.StillTailTactics
import Derived.Deep.CutBlock
import Derived.Deep.DeepCutAuto
namespace Go.Proofs.YtmcenocmilhekaaDoor
set_option linter.unusedVariables false
open Go.RowKit Go.My Go.Sha

set_option maxRecDepth 100000 in
theorem down_is (x n : Nat) (hx : x < 4294967296) (hn2 : n < 32) (w : World) :
    Calls Tryd.prog 22 #[.int .u32 (x : Int), .int .i64 (n : Int)] w fun e w' => e = .returned (.int .u32 (x / 2 ^ n : Nat)) ∧ w = w' := by
  have Hx := Lib.hid hx
  clear hx
  go_enter Tryd.func22, Tryd.ntmps22
  go_wp2
  go_loop [0, 5] (fun v0 v5 => ∃ i m : Nat, i ≤ n ∧ Hid (m < 4294967296) ∧ Hid (m = x / 2 ^ i) ∧ v0 = .int .u32 (m : Int) ∧ v5 = .int .i64 (i : Int)) (fun _ v5 => n - (intOf v5).toNat)
  case atStart => exact ⟨0, x, Nat.zero_le _, Hx, (Nat.div_one x).symm, rfl, rfl⟩
  case round =>
    obtain ⟨i, m, hi, hm, hr, rfl, rfl⟩ := hrel
    by_cases hlt : i < n
    · go_wp2
      go_round
      case rel =>
        refine ⟨i + 1, m / 2, by omega, Nat.lt_of_le_of_lt (Nat.div_le_self _ _) hm.out, ?_, congrArg _ ?_, by go_num⟩
        · show m / 2 = _
          rw [hr.out, Nat.pow_succ, Nat.div_div_eq_div_mul]
        · have := hm.out
          omega
      case measure => simp [intOf]; omega
    · obtain rfl : i = n := by omega
      go_wp2
      go_ret
      exact ⟨congrArg (fun t : Nat => Ending.returned (.int .u32 (t : Int))) hr.out, rfl⟩

set_option maxRecDepth 100000 in
theorem right_is (x n m : Nat) (hx : x < 4294967296) (hm : n + m = 32) (hk : Go.bits .and .u64 (IntKind.u64.wrap (-(n : Int))) 31 = (m : Int)) (w : World) :
    Calls Tryd.prog 26 #[.int .u32 (x : Int), .int .i64 (n : Int)] w fun e w' => e = .returned (.int .u32 (ror x n : Nat)) ∧ w = w' := by
  have hr := rotl_is x n m hx hm (-(n : Int)) hk w
  have H := Lib.hid hr
  have hn : wrap64 (-(n : Int)) = -(n : Int) := IntWalk.wrap64_in _ (by omega)
  clear hr hk hx
  go_enter Tryd.func26, Tryd.ntmps26
  go_wp2_with (go_at_call 28; refine H.out.mono ?_; rintro e w' ⟨rfl, rfl⟩)
  go_ret
  exact ⟨rfl, rfl⟩

theorem str_index (s : ByteArray) (j : Nat) (h : j < s.size) (k : Int) (hk : k = j) (x : Int) (hx : ((s[j]).toNat : Int) = x) (w : World) :
    (Instr.index 9 (.string s) (.int .i64 k)).run Tryd.prog w = .ok (.int .u8 x) w := by
  subst hk
  subst hx
  have h0 : (0 : Int) ≤ j := by omega
  have h1 : (j : Int) < s.size := by omega
  have hu := Tryd.runUnderlying9
  simp [Instr.index, go_sem, h0, h]

theorem or_add (a b k : Nat) (hb : b < 2 ^ k) : a * 2 ^ k ||| b = a * 2 ^ k + b := by
  rw [Nat.mul_comm, ← Nat.two_pow_add_eq_or_of_lt hb]
theorem word4 (a b c d : Nat) (ha : a < 256) (hb : b < 256) (hc : c < 256) (hd : d < 256) :
    Go.bits .or .u32 (Go.bits .or .u32 (Go.bits .or .u32 ((a : Int) % 4294967296 * 16777216 % 4294967296) ((b : Int) % 4294967296 * 65536 % 4294967296)) ((c : Int) % 4294967296 * 256 % 4294967296)) ((d : Int) % 4294967296)
      = ((a * 16777216 + b * 65536 + c * 256 + d : Nat) : Int) := by
  rw [show (a : Int) % 4294967296 * 16777216 % 4294967296 = ((a * 16777216 : Nat) : Int) by omega, show (b : Int) % 4294967296 * 65536 % 4294967296 = ((b * 65536 : Nat) : Int) by omega,
    show (c : Int) % 4294967296 * 256 % 4294967296 = ((c * 256 : Nat) : Int) by omega, show (d : Int) % 4294967296 = (d : Int) by omega]
  rw [or32 _ _ (by omega) (by omega), show a * 16777216 ||| b * 65536 = a * 16777216 + b * 65536 from or_add a (b * 65536) 24 (by omega),
    or32 _ _ (by omega) (by omega), show a * 16777216 + b * 65536 ||| c * 256 = a * 16777216 + b * 65536 + c * 256 by
      rw [show a * 16777216 + b * 65536 = (a * 256 + b) * 2 ^ 16 by omega]; exact or_add _ _ 16 (by omega),
    or32 _ _ (by omega) (by omega), show a * 16777216 + b * 65536 + c * 256 ||| d = a * 16777216 + b * 65536 + c * 256 + d by
      rw [show a * 16777216 + b * 65536 + c * 256 = (a * 65536 + b * 256 + c) * 2 ^ 8 by omega]; exact or_add _ _ 8 (by omega)]

/-- Words as cells. -/
def u32s (l : List Nat) : Array Value := (l.map fun x : Nat => Value.int .u32 (x : Int)).toArray
theorem u32s_size (l : List Nat) : (u32s l).size = l.length := by simp [u32s]
theorem u32s_get (l : List Nat) (i : Nat) (h : i < l.length) : (u32s l)[i]? = some (.int .u32 (l.getD i 0 : Nat)) := by
  simp [u32s, h, List.getD]
theorem u32s_set (l : List Nat) (i x : Nat) : (u32s l).setIfInBounds i (.int .u32 (x : Int)) = u32s (l.set i x) := by
  simp [u32s, List.map_set]
theorem sched_length (f : Nat → Nat) (t : Nat) : (sched f t).length = t := by
  induction t with
  | zero => rfl
  | succ t ih => simp [sched, ih]
/-- The words of a chunk, t of them laid. -/
def wArr (f : Nat → Nat) (t : Nat) : List Nat := sched f t ++ List.replicate (64 - t) 0
theorem wArr_length (f : Nat → Nat) (t : Nat) (h : t ≤ 64) : (wArr f t).length = 64 := by simp [wArr, sched_length]; omega
theorem wArr_get (f : Nat → Nat) (t i : Nat) (h : i < t) : (wArr f t).getD i 0 = (sched f t).getD i 0 := by
  simp [wArr, List.getD, List.getElem?_append_left, sched_length, h]
theorem wArr_set (f : Nat → Nat) (t : Nat) (h : t < 64) (x : Nat) (hx : x = if t < 16 then word f t else nextW (sched f t) t) : (wArr f t).set t x = wArr f (t + 1) := by
  subst hx
  unfold wArr
  rw [List.set_append_right _ _ (by rw [sched_length]; omega), sched_length, Nat.sub_self]
  rw [show 64 - t = (64 - (t + 1)) + 1 by omega, List.replicate_succ, List.set_cons_zero, sched]
  simp

theorem word_lt (f : Nat → Nat) (hfl : ∀ i, f i < 256) (t : Nat) : word f t < 4294967296 := by
  unfold word
  have := hfl (4 * t)
  have := hfl (4 * t + 1)
  have := hfl (4 * t + 2)
  have := hfl (4 * t + 3)
  omega
theorem sched_lt (f : Nat → Nat) (hfl : ∀ i, f i < 256) (t : Nat) : ∀ x ∈ sched f t, x < 4294967296 := by
  induction t with
  | zero => intro x hx; cases hx
  | succ t ih =>
    intro x hx
    rw [sched, List.mem_append, List.mem_singleton] at hx
    rcases hx with hx | rfl
    · exact ih x hx
    · split
      · exact word_lt f hfl t
      · exact Nat.mod_lt _ (by decide)
theorem getD_lt {l : List Nat} (h : ∀ x ∈ l, x < 4294967296) (i : Nat) : l.getD i 0 < 4294967296 := by
  rcases Nat.lt_or_ge i l.length with hi | hi
  · have e : l.getD i 0 = l[i] := by simp [List.getD, hi]
    rw [e]; exact h _ (List.getElem_mem hi)
  · have e : l.getD i 0 = 0 := by simp [List.getD, hi]
    rw [e]; decide
theorem xor3 (a b c : Nat) (ha : a < 4294967296) (hb : b < 4294967296) (hc : c < 4294967296) : Go.bits .xor .u32 (Go.bits .xor .u32 (a : Int) (b : Int)) (c : Int) = ((a ^^^ b ^^^ c : Nat) : Int) := by
  rw [xor32 a b ha hb, xor32 _ c (Nat.xor_lt_two_pow (n := 32) ha hb) hc]
theorem sig0_is (x : Nat) (hx : x < 4294967296) : Go.bits .xor .u32 (Go.bits .xor .u32 (ror x 7 : Nat) (ror x 18 : Nat)) ((x : Int) / 8) = (sig0 x : Nat) := by
  rw [show (x : Int) / 8 = ((x / 8 : Nat) : Int) by omega, xor3 _ _ _ (ror_lt x 7 hx (by decide)) (ror_lt x 18 hx (by decide)) (by omega)]
  rfl
theorem sig1_is (x : Nat) (hx : x < 4294967296) : Go.bits .xor .u32 (Go.bits .xor .u32 (ror x 17 : Nat) (ror x 19 : Nat)) ((x : Int) / 1024) = (sig1 x : Nat) := by
  rw [show (x : Int) / 1024 = ((x / 1024 : Nat) : Int) by omega, xor3 _ _ _ (ror_lt x 17 hx (by decide)) (ror_lt x 19 hx (by decide)) (by omega)]
  rfl
theorem next_is (l : List Nat) (t u x v y : Nat) (hu : l.getD (t - 16) 0 = u) (hx : l.getD (t - 15) 0 = x) (hv : l.getD (t - 7) 0 = v) (hy : l.getD (t - 2) 0 = y) (a b : Int) (ha : a = (sig0 x : Nat)) (hb : b = (sig1 y : Nat)) :
    IntKind.u32.wrap (IntKind.u32.wrap (IntKind.u32.wrap ((u : Int) + a) + (v : Int)) + b) = (nextW l t : Nat) := by
  subst ha hb
  unfold nextW
  simp only [IntKind.wrap_u32]
  rw [hu, hx, hv, hy]
  omega

set_option maxHeartbeats 4000000 in
set_option maxRecDepth 100000 in
theorem spread_is (s : ByteArray) (f : Nat → Nat) (hs : s.size = 64) (hf : ∀ i (h : i < s.size), (s[i]).toNat = f i) (hfl : ∀ i, f i < 256) (w : World) :
    Calls Tryd.prog 25 #[.string s] w fun e w' => e = .returned (.agg (u32s (sched f 64))) ∧ Fr (fun _ => False) w w' := by
  have Hf := Lib.hid hf
  have Hfl := Lib.hid hfl
  clear hf hfl
  go_enter Tryd.func25, Tryd.ntmps25
  go_upto_block 0 with fail
  show Code.wp _ _ _ _ (w.alloc (.cells (u32s (wArr f 0)) 46))
  have hst : ∃ W b, w.alloc (.cells (u32s (wArr f 0)) 46) = W ∧ w.heap.size = b ∧ W.heap[b]? = some (.cells (u32s (wArr f 0)) 46 (0, 0)) ∧ Fr (fun _ => False) w W :=
    ⟨_, _, rfl, rfl, heap_alloc_new w _, (Fr.refl _ _).alloc _⟩
  obtain ⟨W, b, hW, hb, hB, hF⟩ := hst
  rw [hW, hb]
  have hbl : w.heap.size ≤ b := by omega
  have HB := Lib.hid hB
  have HF := Lib.hid hF
  have HL := Lib.hid hbl
  have Hs := Lib.hid hs
  clear hW hb hB hF hbl
  go_cut [7] (fun _ wx => Hid (Fr (fun _ => False) w wx) ∧ Hid (wx.heap[b]? = some (.cells (u32s (wArr f 16)) 46 (0, 0))))
  case first =>
    go_wp2
    go_loopw [7] (fun v7 wr => ∃ i : Nat, i ≤ 16 ∧ v7 = .int .i64 (i : Int) ∧ Hid (Fr (fun _ => False) w wr) ∧ Hid (wr.heap[b]? = some (.cells (u32s (wArr f i)) 46 (0, 0)))) (fun v7 _ => 16 - (intOf v7).toNat)
    case atStart => exact ⟨0, by omega, rfl, HF, HB⟩
    case round =>
      obtain ⟨i, hi, rfl, KF, KB⟩ := hrel
      clear HF HB
      by_cases hlt : i < 16
      · have h1 : (i : Int) < 16 := by omega
        have c0 : wr.cell? ⟨b, i, none⟩ = some (.int .u32 ((wArr f i).getD i 0 : Nat)) := (cell_of KB.out i).trans (u32s_get _ _ (by rw [wArr_length _ _ (by omega)]; omega))
        have f0 := free_of KB.out i
        have x0 : ∀ W, (Instr.index 9 (.string s) (.int .i64 (4 * (i : Int)))).run Tryd.prog W = .ok (.int .u8 (f (4 * i) : Nat)) W := str_index s (4 * i) (by omega) _ (by omega) _ (by rw [Hf.out])
        have x1 : ∀ W, (Instr.index 9 (.string s) (.int .i64 (4 * (i : Int) + 1))).run Tryd.prog W = .ok (.int .u8 (f (4 * i + 1) : Nat)) W := str_index s (4 * i + 1) (by omega) _ (by omega) _ (by rw [Hf.out])
        have x2 : ∀ W, (Instr.index 9 (.string s) (.int .i64 (4 * (i : Int) + 2))).run Tryd.prog W = .ok (.int .u8 (f (4 * i + 2) : Nat)) W := str_index s (4 * i + 2) (by omega) _ (by omega) _ (by rw [Hf.out])
        have x3 : ∀ W, (Instr.index 9 (.string s) (.int .i64 (4 * (i : Int) + 3))).run Tryd.prog W = .ok (.int .u8 (f (4 * i + 3) : Nat)) W := str_index s (4 * i + 3) (by omega) _ (by omega) _ (by rw [Hf.out])
        clear hs
        go_upto_region 4 with fail
        have hw := word4 (f (4 * i)) (f (4 * i + 1)) (f (4 * i + 2)) (f (4 * i + 3)) (Hfl.out _) (Hfl.out _) (Hfl.out _) (Hfl.out _)
        have Hw := Lib.hid hw
        clear hw
        go_region
        rw [Hw.out]
        have hb := block_setCell KB.out (.int .u32 ((word f i : Nat) : Int)) (off := i)
        rw [u32s_set, wArr_set f i (by omega) (word f i) (by rw [if_pos hlt])] at hb
        have hfr := (Fr.refl (fun k => k = b) wr).setCell ⟨b, i, none⟩ (.int .u32 ((word f i : Nat) : Int)) (.inl rfl)
        have MB := Lib.hid hb
        have MF := Lib.hid (KF.out.trans hfr (fun k hk => .inr (by have := HL.out; omega)))
        clear hb hfr x0 x1 x2 x3
        go_wp2
        go_roundw
        case rel => exact ⟨i + 1, by omega, by go_num, MF.out.drew, MB⟩
        case measure => simp [intOf]; omega
      · obtain rfl : i = 16 := by omega
        clear hs
        go_wp2
        go_meet
        exact ⟨KF, KB⟩
  case rest =>
    obtain ⟨KF, KB⟩ := hcut
    clear HF HB hs
    go_wp2
    go_loopw [4] (fun v4 wr => ∃ i : Nat, 16 ≤ i ∧ i ≤ 64 ∧ v4 = .int .i64 (i : Int) ∧ Hid (Fr (fun _ => False) w wr) ∧ Hid (wr.heap[b]? = some (.cells (u32s (wArr f i)) 46 (0, 0)))) (fun v4 _ => 64 - (intOf v4).toNat)
    case atStart => exact ⟨16, by omega, by omega, rfl, KF, KB⟩
    case round =>
      obtain ⟨i, hi0, hi, rfl, JF, JB⟩ := hrel
      clear KF KB
      by_cases hlt : i < 64
      · obtain ⟨l, hl⟩ : ∃ l, sched f i = l := ⟨_, rfl⟩
        have hll : ∀ j, l.getD j 0 < 4294967296 := fun j => by rw [← hl]; exact getD_lt (sched_lt f Hfl.out i) j
        have hc : ∀ j, j < i → wr.cell? ⟨b, j, none⟩ = some (.int .u32 (l.getD j 0 : Nat)) := fun j hj =>
          (cell_of JB.out j).trans ((u32s_get _ _ (by rw [wArr_length _ _ hi]; omega)).trans (by rw [wArr_get f i j hj, hl]))
        obtain ⟨u, hu⟩ : ∃ u, l.getD (i - 16) 0 = u := ⟨_, rfl⟩
        obtain ⟨x, hx⟩ : ∃ x, l.getD (i - 15) 0 = x := ⟨_, rfl⟩
        obtain ⟨v, hv⟩ : ∃ v, l.getD (i - 7) 0 = v := ⟨_, rfl⟩
        obtain ⟨y, hy⟩ : ∃ y, l.getD (i - 2) 0 = y := ⟨_, rfl⟩
        have c16 : wr.cell? ⟨b, i - 16, none⟩ = some (.int .u32 (u : Int)) := by rw [hc _ (by omega), hu]
        have c15 : wr.cell? ⟨b, i - 15, none⟩ = some (.int .u32 (x : Int)) := by rw [hc _ (by omega), hx]
        have c7 : wr.cell? ⟨b, i - 7, none⟩ = some (.int .u32 (v : Int)) := by rw [hc _ (by omega), hv]
        have c2 : wr.cell? ⟨b, i - 2, none⟩ = some (.int .u32 (y : Int)) := by rw [hc _ (by omega), hy]
        have c0 : wr.cell? ⟨b, i, none⟩ = some (.int .u32 ((wArr f i).getD i 0 : Nat)) := (cell_of JB.out i).trans (u32s_get _ _ (by rw [wArr_length _ _ hi]; omega))
        have f0 := free_of JB.out i
        have hxl : x < 4294967296 := by rw [← hx]; exact hll _
        have hyl : y < 4294967296 := by rw [← hy]; exact hll _
        have R7 := Lib.hid (fun W => right_is x 7 25 hxl rfl (by decide +kernel) W)
        have R18 := Lib.hid (fun W => right_is x 18 14 hxl rfl (by decide +kernel) W)
        have R17 := Lib.hid (fun W => right_is y 17 15 hyl rfl (by decide +kernel) W)
        have R19 := Lib.hid (fun W => right_is y 19 13 hyl rfl (by decide +kernel) W)
        have hw := next_is l i u x v y hu hx hv hy _ _ (sig0_is x hxl) (sig1_is y hyl)
        have Hw := Lib.hid hw
        have Hl := Lib.hid hl
        clear hw hu hx hv hy hc hll hl hxl hyl
        have g16 : IntKind.i64.wrap ((i : Int) - 16) = ((i - 16 : Nat) : Int) := by rw [IntWalk.i64_in _ (by omega)]; omega
        have g7 : IntKind.i64.wrap ((i : Int) - 7) = ((i - 7 : Nat) : Int) := by rw [IntWalk.i64_in _ (by omega)]; omega
        have k16 : ((i - 16 : Nat) : Int) < 64 := by omega
        have k7 : ((i - 7 : Nat) : Int) < 64 := by omega
        have p16 : (0 : Int) ≤ ((i - 16 : Nat) : Int) := by omega
        have p7 : (0 : Int) ≤ ((i - 7 : Nat) : Int) := by omega
        have n16 : i - 16 ≠ i := by omega
        have n7 : i - 7 ≠ i := by omega
        have n16' : i ≠ i - 16 := by omega
        have n7' : i ≠ i - 7 := by omega
        have p0 : (0 : Int) ≤ (i : Int) := by omega
        have p64 : (i : Int) < 64 := by omega
        go_upto_region 9 with fail
        go_region
        go_wp2
        go_region_held3 (fun w' => w'.cell? ⟨b, i - 16, none⟩ = some (.int .u32 (u : Int)) ∧ w'.cell? ⟨b, i - 7, none⟩ = some (.int .u32 (v : Int))) (first | exact ⟨set_other c16 n16, set_other c7 n7⟩ | go_keep) ((go_at_call 26; (first | refine (R7.out _).mono ?_ | refine (R18.out _).mono ?_ | refine (R17.out _).mono ?_ | refine (R19.out _).mono ?_); rintro e w' ⟨rfl, rfl⟩))
        rw [Hw.out]
        have hb := block_setCell JB.out (.int .u32 ((nextW l i : Nat) : Int)) (off := i)
        rw [u32s_set, wArr_set f i hlt (nextW l i) (by rw [if_neg (by omega), Hl.out])] at hb
        have hfr := (Fr.refl (fun k => k = b) wr).setCell ⟨b, i, none⟩ (.int .u32 ((nextW l i : Nat) : Int)) (.inl rfl)
        have MB := Lib.hid hb
        have MF := Lib.hid (JF.out.trans hfr (fun k hk => .inr (by have := HL.out; omega)))
        clear hb hfr c16 c15 c7 c2 c0 f0 n16 n7 n16' n7' g16 g7
        go_wp2
        go_roundw
        case rel => exact ⟨i + 1, by omega, by omega, by go_num, MF.out.drew.drew, MB⟩
        case measure => simp [intOf]; omega
      · obtain rfl : i = 64 := by omega
        have hF : wArr f 64 = sched f 64 := by simp [wArr]
        have hsz : (u32s (sched f 64)).size = 64 := by rw [u32s_size, sched_length]
        rw [hF] at JB
        have hall : ∀ v ∈ (u32s (sched f 64)).toList, v.oneCell' = true := fun v hv => by
          simp only [u32s, List.mem_map] at hv
          obtain ⟨_, _, rfl⟩ := hv
          rfl
        obtain ⟨A, hA⟩ : ∃ A, u32s (sched f 64) = A := ⟨_, rfl⟩
        rw [hA] at hsz hall JB
        have HA := Lib.hid hA
        have r1 : (loadVar 46 ⟨b, 0, none⟩).run Tryd.prog wr = .ok (.agg A) wr :=
          run_loadVar_row _ _ _ _ _ _ _ JB.out Tryd.underlying46 rfl (by rw [hsz]; kernel_rfl)
        have r2 : (storeVar 46 ⟨b, 0, none⟩ (.agg A)).run Tryd.prog wr = .ok () (wr.setRow b A) :=
          run_storeVar_row _ _ _ _ _ _ JB.out (by rw [hsz]; kernel_rfl) rfl (by rw [Array.all_eq_true_iff_forall_mem]; intro v hv; exact hall v (by simpa using hv))
        have r3 : (loadVar 46 ⟨b, 0, none⟩).run Tryd.prog (wr.setRow b A) = .ok (.agg A) (wr.setRow b A) :=
          run_loadVar_row _ _ _ _ _ _ _ (block_setRow JB.out) Tryd.underlying46 rfl (by rw [hsz]; kernel_rfl)
        have MF := Lib.hid (fr_setRow JF.out b A (.inr HL.out))
        have R1 := Lib.hid r1
        have R2 := Lib.hid r2
        have R3 := Lib.hid r3
        clear hF hA hlt hi0 hall r1 r2 r3
        go_wp2_with (first | refine wpList_load_arr rfl 46 _ rfl rfl R1.out ?_ | refine wpList_store_arr rfl 46 _ _ rfl rfl rfl R2.out ?_)
        refine bodyPost_ret (results_cell Tryd.results25 rfl R3.out) rfl ?_
        exact ⟨by rw [HA.out], MF.out⟩
end Go.Proofs.YtmcenocmilhekaaDoor
