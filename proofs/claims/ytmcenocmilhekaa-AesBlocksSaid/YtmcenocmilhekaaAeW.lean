/- Walks of layer 25's law: the standard's example. -/
import Derived.Test.YtmcenocmilhekaaAeV
import Derived.ChangeKeysEq
namespace Go.Proofs.Ytmcenocmilhekaa
set_option linter.unusedVariables false
open Go.RowKit Go.My Go.Aes

theorem Fr.range {S : Nat → Prop} {w w' : World} (hf : Fr S w w') {b o : Nat} {cs : List Value} (h : w.rangeAt b o cs) (hS : ¬ S b) : w'.rangeAt b o cs := fun j v hv => hf.cell_ (h j v hv) hS
theorem u8Info : (Try.prog.info? 5).isSome = true := by kernel_rfl
theorem items_same (l : List Nat) (w : World) (hl : l.length = 16) : ∀ is : List Nat, (∀ i ∈ is, i < 16) → (Op.eqItems 9999 5 (Try.prog.cellsOf 5) (u8s l) (u8s l) is).run Try.prog w = .ok true w := by
  have hc : Try.prog.cellsOf 5 = 1 := by kernel_rfl
  rw [hc]
  intro is
  induction is with
  | nil => intro _; simp [Op.eqItems]
  | cons i is ih =>
    intro h
    have hi := h i (by simp)
    have hg := u8s_get l i (by omega)
    have hp : (part 5 (u8s l) (i * 1)).run Try.prog w = .ok (.int .u8 (l.getD i 0 : Nat)) w := by
      rw [Nat.mul_one]
      generalize u8s l = A at *
      generalize l.getD i 0 = x at *
      simp [part, go_sem, hg]
    have he : (Op.equalIn 9999 5 (.int .u8 (l.getD i 0 : Nat)) (.int .u8 (l.getD i 0 : Nat))).run Try.prog w = .ok true w := by
      have h := run_equalIn_int (P := Try.prog) w 9998 5 .u8 .u8 (l.getD i 0 : Nat) (l.getD i 0 : Nat) Try.underlying5
      rw [h]
      simp
    simp only [Op.eqItems, Sem.run_bind, hp, he, Result.andThen_ok]
    simpa using ih (fun j hj => h j (by simp [hj]))
theorem eqIn16 (l : List Nat) (hl : l.length = 16) (w : World) : (Op.equalIn 10000 22 (.agg (u8s l)) (.agg (u8s l))).run Try.prog w = .ok true w := by
  cases hi : Try.prog.info? 5 with
  | none => have := u8Info; rw [hi] at this; cases this
  | some i =>
    have h := run_equalIn_array (P := Try.prog) w 9999 (u8s l) (u8s l) Try.underlying22 hi
    rw [show (10000 : Nat) = 9999 + 1 from rfl, h]
    exact items_same l w hl _ (fun i hi => List.mem_range.1 hi)
theorem eq16 (l : List Nat) (hl : l.length = 16) (w : World) : (binOp .eql 22 (.agg (u8s l)) (.agg (u8s l))).run Try.prog w = .ok (.bool true) w := by
  rw [run_eql_struct, eqIn16 l hl w]
  rfl
theorem wpList_load_arr_g {P : Program} {w : World} {ops : Array Oper} {rest : List Oper} {o : Oper} {a : Act} {Q : Exit → Act → World → Prop} (hw : Region.wanted o (yielded ops a.tmps) = true) (t : TypeId) (x : Operand) (ho : o.op = .load t x)
    {ad : Addr} {v : Value} (hx : a.eval x = .pointer (some ad)) (hl : (loadVar t ad).run P w = .ok v w) (h : wpList P ops Q rest (a.put o.dst v) w) : wpList P ops Q (o :: rest) a w := by
  refine wpList_step fun K hK => ?_
  rw [if_pos hw]
  unfold Oper.wp execOp
  simp only [ho, hx, Instr.loadAt, Instr.sureAddr, Sem.run_bind, Sem.run_pure, Result.andThen_ok, hl]
  exact hK _ _ h
theorem BrG.of_blk {w : World} {g : Nat} {bs : List UInt8} (h : w.heap[g]? = some (.cells (bytesV bs).toArray 5 (0, 0))) : BrG w bs.length g bs.length bs :=
  ⟨_, (0, 0), ⟨rfl, h, Nat.zero_le _, Nat.le_refl _, by simp [bytesV], fun j hj => by simp [bytesV, List.getD, hj], fun j _ => by simp⟩⟩
def kL : List UInt8 := (List.range 32).map fun i => i.toUInt8
def kN (k : Nat) : List UInt8 := (List.range 32).map fun i => if i < k then i.toUInt8 else 0
def bN (k : Nat) : List Nat := (List.range 16).map fun i => if i < k then 17 * i else 0
theorem kN_set (k : Nat) (hk : k < 32) : (kN k).set k k.toUInt8 = kN (k + 1) := by
  apply List.ext_getElem?
  intro i
  rw [List.getElem?_set]
  simp only [kN, List.length_map, List.length_range]
  by_cases e : k = i
  · subst e
    simp [hk]
  · rw [if_neg e]
    rcases Nat.lt_or_ge i 32 with h | h
    · simp only [List.getElem?_map, List.getElem?_range h, Option.map_some]
      congr 1
      by_cases h2 : i < k
      · rw [if_pos h2, if_pos (by omega)]
      · rw [if_neg h2, if_neg (by omega)]
    · rw [List.getElem?_eq_none (by simpa using h), List.getElem?_eq_none (by simpa using h)]
theorem bN_set (k : Nat) (hk : k < 32) : (bN k).set (k % 16) (17 * (k % 16)) = bN (k + 1) := by
  have key : ∀ k, k < 32 → (bN k).set (k % 16) (17 * (k % 16)) = bN (k + 1) := by decide
  exact key k hk
def exL : List Nat := [0x8e, 0xa2, 0xb7, 0xca, 0x51, 0x67, 0x45, 0xbf, 0xea, 0xfc, 0x49, 0x90, 0x4b, 0x49, 0x60, 0x89]
theorem speaks_fin : blockL (keyN (keyB ⟨(kN 32).toArray⟩) 52) (bN 32) = exL := by
  have e1 : keyB ⟨(kN 32).toArray⟩ = List.range 32 := by decide
  have e2 : bN 32 = (List.range 16).map fun i => 17 * i := by decide
  rw [e1, e2]
  exact speaks_plain

set_option maxHeartbeats 4000000 in
set_option maxRecDepth 100000 in
theorem speaks25 (w : World) : Calls Try.prog 5 #[] w fun e w' => e = .returned (.bool true) ∧ Fr (fun _ => False) w w' := by
  have hmk : (Instr.makeSlice 36 (.int .i64 32) (.int .i64 32)).run Try.prog w = .ok (.slice (some ⟨w.heap.size, 0, none⟩) 32 32) (w.alloc (.cells (bytesV (List.replicate 32 0)).toArray 5)) := make_bytes 32 (by decide) w
  obtain ⟨W1, hW1⟩ : ∃ W1, w.alloc (.cells (bytesV (List.replicate 32 0)).toArray 5) = W1 := ⟨_, rfl⟩
  obtain ⟨g, hg⟩ : ∃ g, w.heap.size = g := ⟨_, rfl⟩
  have hb : W1.heap[g]? = some (.cells (bytesV (List.replicate 32 0)).toArray 5 (0, 0)) := by rw [← hW1, ← hg]; exact heap_alloc_new w _
  have hf : Fr (fun _ => False) w W1 := by rw [← hW1]; exact (Fr.refl _ _).alloc _
  have hbr : BrG W1 32 g 32 (kN 0) := by
    have e : kN 0 = List.replicate 32 0 := by decide
    rw [e]
    have h := BrG.of_blk hb
    rwa [List.length_replicate] at h
  rw [hW1, hg] at hmk
  have HF := Lib.hid hf
  have HG := Lib.hid hbr
  have Hg : Hid (w.heap.size = g) := hg
  clear hW1 hg hb hf hbr
  go_enter Try.func5, Try.ntmps5
  go_upto_block 0 with fail
  clear hmk
  show Code.wp _ _ _ _ (W1.alloc (.cells (u8s (List.replicate 16 0)) 22))
  have hz : (List.replicate 16 0 : List Nat) = bN 0 := by decide
  rw [hz]
  have hb2 := heap_alloc_new W1 (.cells (u8s (bN 0)) 22)
  have hf2 : Fr (fun _ => False) w (W1.alloc (.cells (u8s (bN 0)) 22)) := HF.out.alloc _
  have hg2 := HG.out.keep ((Fr.refl (fun _ => False) W1).alloc (.cells (u8s (bN 0)) 22)) (fun x => x)
  have hgp : g ≠ W1.heap.size := by have := HG.out.lt; omega
  have hpw : w.heap.size ≤ W1.heap.size := HF.out.size
  generalize W1.heap.size = p2 at *
  generalize W1.alloc (.cells (u8s (bN 0)) 22) = V at *
  have F0 := Lib.hid hf2
  have G0 := Lib.hid hg2
  have B0 := Lib.hid hb2
  have Hpw := Lib.hid hpw
  clear hz hb2 hf2 hg2 hpw HF HG
  go_cut [3] (fun _ wx => Hid (Fr (fun _ => False) w wx) ∧ Hid (BrG wx 32 g 32 (kN 32)) ∧ Hid (wx.heap[p2]? = some (.cells (u8s (bN 32)) 22 (0, 0))))
  case first =>
    go_wp2
    go_loopw [3] (fun v3 wr => ∃ i : Nat, i ≤ 32 ∧ v3 = .int .i64 (i : Int) ∧ Hid (Fr (fun _ => False) w wr) ∧ Hid (BrG wr 32 g 32 (kN i)) ∧ Hid (wr.heap[p2]? = some (.cells (u8s (bN i)) 22 (0, 0)))) (fun v3 _ => 32 - (intOf v3).toNat)
    case atStart => exact ⟨0, by omega, rfl, F0, G0, B0⟩
    case round =>
      obtain ⟨i, hi, rfl, KF, KG, KB⟩ := hrel
      clear F0 G0 B0
      by_cases hlt : i < 32
      · have hlI : (i : Int) < 32 := by omega
        have hi0 : (0 : Int) ≤ (i : Int) := by omega
        have hkl : i < (kN i).length := by simp [kN]; omega
        have c0 := KG.out.cell i hkl
        have f0 := KG.out.notf i hkl
        have hset := KG.out.set i i.toUInt8
        rw [kN_set i hlt] at hset
        have hub : (i.toUInt8.toNat : Int) = (i : Int) := by simp [Nat.toUInt8]; omega
        rw [hub] at hset
        have hm8 : (i : Int) % 256 = (i : Int) := by omega
        obtain ⟨j, hj⟩ : ∃ j, i % 16 = j := ⟨_, rfl⟩
        have hjI : (i : Int) % 16 = (j : Int) := by omega
        have hj16 : (j : Int) < 16 := by omega
        have hj0 : (0 : Int) ≤ (j : Int) := by omega
        obtain ⟨y, hy⟩ : ∃ y, 17 * j = y := ⟨_, rfl⟩
        have hyI : 17 * (j : Int) = (y : Int) := by omega
        have hy8 : (y : Int) % 256 = (y : Int) := by omega
        have hy0 : (0 : Int) ≤ (y : Int) := by omega
        have hy256 : (y : Int) < 256 := by omega
        have hbs := bN_set i hlt
        rw [hj, hy] at hbs
        have hfr1 := (Fr.refl (fun k => k = g) wr).setCell ⟨g, i, none⟩ (.int .u8 (i : Int)) (.inl rfl)
        have hb1 := hfr1.keep KB.out (fun e => hgp e.symm)
        have c2 : (wr.setCell ⟨g, i, none⟩ (.int .u8 (i : Int))).cell? ⟨p2, j, none⟩ = some (.int .u8 ((bN i).getD j 0 : Nat)) := (cell_of hb1 j).trans (u8s_get _ _ (by simp [bN]; omega))
        have f2 := free_of hb1 j
        have hb2 := block_setCell hb1 (.int .u8 (y : Int)) (off := j)
        rw [u8s_set, hbs] at hb2
        have hfr2 := (Fr.refl (fun k => k = p2) (wr.setCell ⟨g, i, none⟩ (.int .u8 (i : Int)))).setCell ⟨p2, j, none⟩ (.int .u8 (y : Int)) (.inl rfl)
        have MF := Lib.hid ((KF.out.trans hfr1 (fun k hk => .inr (by have := Hg.out; omega))).trans hfr2 (fun k hk => .inr (by have := Hpw.out; omega)))
        have MG := Lib.hid (hset.keep hfr2 hgp)
        have MB := Lib.hid hb2
        clear hset hbs hfr1 hb1 hb2 hfr2 hub hkl hj hy
        go_wp2
        go_roundw
        case rel => exact ⟨i + 1, by omega, by go_num, MF, MG, MB⟩
        case measure => simp [intOf]; omega
      · obtain rfl : i = 32 := by omega
        clear hlt hi
        go_wp2
        go_meet
        exact ⟨KF, KG, KB⟩
  case rest =>
    obtain ⟨KF, KG, KB⟩ := hcut
    clear F0 G0 B0
    have htx := KG.out.text
    have hkey : (⟨(kN 32).toArray⟩ : ByteArray).size = 32 := by decide
    have hnw := new_is ⟨(kN 32).toArray⟩ hkey wc
    have hW : (keyN (keyB ⟨(kN 32).toArray⟩) 52).length = 240 := keyN_length _ (by rw [keyB_length, hkey]) 52
    have hWl := keyN_lt (keyB ⟨(kN 32).toArray⟩) (keyB_lt _) 52 (by decide)
    have hbk := fun c U (h : Cip U c (keyN (keyB ⟨(kN 32).toArray⟩) 52)) => block_is _ (bN 32) (by simp [bN]) (map16_lt _ (fun i hi => by split <;> omega)) hW hWl c U h
    rw [speaks_fin] at hbk
    obtain ⟨W, hWe⟩ : ∃ W, keyN (keyB ⟨(kN 32).toArray⟩) 52 = W := ⟨_, rfl⟩
    obtain ⟨K, hKe⟩ : ∃ K : ByteArray, (⟨(kN 32).toArray⟩ : ByteArray) = K := ⟨_, rfl⟩
    rw [hWe] at hbk hnw
    rw [hKe] at hnw htx
    have heq := eqIn16 exL rfl
    have hex : u8s exL = #[.int .u8 142, .int .u8 162, .int .u8 183, .int .u8 202, .int .u8 81, .int .u8 103, .int .u8 69, .int .u8 191, .int .u8 234, .int .u8 252, .int .u8 73, .int .u8 144, .int .u8 75, .int .u8 73, .int .u8 96, .int .u8 137] := rfl
    rw [hex] at heq hbk
    have Htx := Lib.hid htx
    have HN := Lib.hid hnw
    have HBk := Lib.hid hbk
    clear htx hkey hnw hW hWl hbk hWe hKe hex
    go_wp2_with (first
      | refine wpList_cv 36 9 _ rfl rfl _ _ rfl Htx.out ?_
      | (go_at_call 7; refine HN.out.mono ?_; rintro e w2 ⟨c, rfl, h1, h2⟩; have C2 := Lib.hid h1; have F2 := Lib.hid (KF.out.trans h2 (fun _ h => .inl h)); have B2 := Lib.hid (h2.keep KB.out (fun x => x)); have R2 := Lib.hid (ld16 B2.out (by simp [bN])); clear h1 h2)
      | refine wpList_load_arr_g (by rfl) 22 _ rfl rfl R2.out ?_
      | (go_at_call 9; refine (HBk.out _ _ C2.out).mono ?_; rintro e w3 ⟨rfl, h⟩; have F3 := Lib.hid (F2.out.trans h (fun _ h => .inl h)); clear h))
    go_ret
    exact ⟨rfl, F3.out⟩
end Go.Proofs.Ytmcenocmilhekaa
