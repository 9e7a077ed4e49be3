/- Layer 27 (index): the text of entries, the total of items. -/
import Derived.Test.YtlkiijojldnlbaaIxB
namespace Go.Proofs.Ytlkiijojldnlbaa
set_option linter.unusedVariables false
open Go.RowKit Go.My Go.Ix

set_option maxHeartbeats 2000000 in
set_option maxRecDepth 100000 in
theorem bldString_nil (B b : Nat) (w : World) (h : Lib.IsBuilder 79 5 B b (Lib.byteCells []) w) :
    Calls Try.prog 33 #[.pointer (some ⟨b, 0, none⟩)] w fun e w' => e = .returned (.string .empty) ∧ Below B w w' := by
  obtain ⟨p, hB, v, hbk, hown, hne⟩ : ∃ p, Lib.BuilderAt 79 5 B b p (Lib.byteCells []) w := by
    rcases h with h | h
    · exact ⟨_, h⟩
    · exact ⟨_, h⟩
  have hblt := lt_of_block hbk
  rcases hown.2 with ⟨rfl, _⟩ | ⟨g, cap, cur, rfl, hbg, hg, hnc, hcm, hcs, htake⟩
  · have c1 : w.drew.cell? ⟨b, 1, none⟩ = some (.slice none 0 0) := by
      have : w.drew.heap[b]? = some (.cells #[p, .slice none 0 0] 79 (0, 0)) := hbk
      rw [Lib.cell_of_heap this]; rfl
    have hSD : (Builtin.unsafeSliceData_ #[52] 90 #[.slice none 0 0]).run Try.prog w.drew = .ok (.pointer none) w.drew := Lib.run_unsafeSliceData_nil _ _ _ _ _
    have hUS : (Builtin.unsafeString_ #[90, 3] 9 #[.pointer none, .int .i64 0]).run Try.prog w.drew = .ok (.string .empty) w.drew := Lib.run_unsafeString_none _ _ _ _ _
    go_enter Try.func33, Try.ntmps33
    go_wp2
    go_region
    all_goals (go_wp2; go_ret; exact ⟨rfl, Below.drew (Below.refl B w)⟩)
  · have hl : (Lib.byteCells []).length = 0 := rfl
    rw [hl] at *
    have c1 : w.drew.cell? ⟨b, 1, none⟩ = some (.slice (some ⟨g, 0, none⟩) 0 cap) := by
      have : w.drew.heap[b]? = some (.cells #[p, .slice (some ⟨g, 0, none⟩) 0 cap] 79 (0, 0)) := hbk
      rw [Lib.cell_of_heap this]; rfl
    by_cases hc0 : cap = 0
    · subst hc0
      have hsh : w.drew.shape? (⟨g, 0, none⟩ : Addr).block = some (5, cur.size) := by have hg' : w.drew.heap[g]? = some (.cells cur 5 (0, 0)) := hg; simp [World.shape?, hg']
      have hSD : (Builtin.unsafeSliceData_ #[52] 90 #[.slice (some ⟨g, 0, none⟩) 0 0]).run Try.prog w.drew = .ok (.pointer (some ⟨w.drew.heap.size, 0, none⟩)) (w.drew.alloc (.view ⟨g, 0, none⟩ 5)) := Lib.run_unsafeSliceData_zero _ _ _ 5 Try.underlying90 _ _ _ hsh
      have hst : ∃ W q, w.drew.alloc (.view ⟨g, 0, none⟩ 5) = W ∧ w.drew.heap.size = q ∧ Below B w W ∧ W.cell? ⟨b, 1, none⟩ = some (.slice (some ⟨g, 0, none⟩) 0 0) :=
        ⟨_, _, rfl, rfl, (Below.drew (Below.refl B w)).alloc (by show B ≤ w.heap.size; omega) _, by rw [block_alloc_cell (w := w.drew) _ hblt]; exact c1⟩
      obtain ⟨W, q, hW, hq, hbW, c1W⟩ := hst
      rw [hW, hq] at hSD
      have hUS : ∀ U, (Builtin.unsafeString_ #[90, 3] 9 #[.pointer (some ⟨q, 0, none⟩), .int .i64 0]).run Try.prog U = .ok (.string .empty) U := fun U => Lib.run_unsafeString_none _ _ _ _ _
      have HbW := Lib.hid hbW
      clear hbk hown hg hsh hW hq hbW
      go_enter Try.func33, Try.ntmps33
      go_wp2
      go_region
      all_goals (go_wp2; go_ret; exact ⟨rfl, HbW.out⟩)
    · have hSD : (Builtin.unsafeSliceData_ #[52] 90 #[.slice (some ⟨g, 0, none⟩) 0 cap]).run Try.prog w.drew = .ok (.pointer (some ⟨g, 0, none⟩)) w.drew := Lib.run_unsafeSliceData_row _ _ _ _ _ _ (by omega)
      have hUS : (Builtin.unsafeString_ #[90, 3] 9 #[.pointer (some ⟨g, 0, none⟩), .int .i64 0]).run Try.prog w.drew = .ok (.string .empty) w.drew := Lib.run_unsafeString_none _ _ _ _ _
      clear hc0
      go_enter Try.func33, Try.ntmps33
      go_wp2
      go_region
      all_goals (go_wp2; go_ret; exact ⟨rfl, Below.drew (Below.refl B w)⟩)
theorem bldString_any (B b : Nat) (l : List UInt8) (w : World) (h : Lib.IsBuilder 79 5 B b (Lib.byteCells l) w) :
    Calls Try.prog 33 #[.pointer (some ⟨b, 0, none⟩)] w fun e w' => e = .returned (.string ⟨l.toArray⟩) ∧ Below B w w' := by
  by_cases h0 : l = []
  · subst h0
    exact bldString_nil B b w h
  · exact bldString_is B b l w h h0

/-- All entries' bytes. -/
def allD (L : Ents) (i : Nat) : List UInt8 := (L.take i).flatMap (·.2)
theorem allD_succ (L : Ents) (i : Nat) (h : i < L.length) : allD L (i + 1) = allD L i ++ L[i].2 := by
  unfold allD
  rw [List.take_succ_eq_append_getElem h, List.flatMap_append]
  simp
theorem allD_length (L : Ents) : ∀ i, i ≤ L.length → (allD L i).length = sumN L i
  | 0, _ => rfl
  | i + 1, h => by
    rw [allD_succ L i (by omega), List.length_append, allD_length L i (by omega)]
    show _ = sumN L i + (L.getD i ([], [])).2.length
    simp [List.getD, List.getElem?_eq_getElem (show i < L.length by omega)]

set_option maxHeartbeats 4000000 in
set_option maxRecDepth 100000 in
theorem text_is (L : Ents) (n : Nat) (hn : L.length = n) (hb : n ≤ 1000) (hx : Small L) (B0 : Nat) (v : Value) (w : World) (ho : w.ownsRow B0 54 2 v n (entsV L)) :
    Calls Try.prog 22 #[v] w fun e w' => e = .returned (.string ⟨(allD L n).toArray⟩) ∧ Fr (fun _ => False) w w' := by
  obtain ⟨a, p, hv⟩ := own_any ho
  subst hv
  have hbI : (n : Int) ≤ 1000 := by omega
  have hbl := Lib.fresh_isBuilder 79 5 w
  obtain ⟨B, hB⟩ : ∃ B, w.heap.size = B := ⟨_, rfl⟩
  have hf2 : Fr (fun k => B ≤ k) w (w.alloc (.cells #[.pointer none, .slice none 0 0] 79)) := (Fr.refl _ w).alloc _
  obtain ⟨W, hW⟩ : ∃ W, w.alloc (.cells #[.pointer none, .slice none 0 0] 79) = W := ⟨_, rfl⟩
  rw [hB, hW] at hbl
  rw [hW] at hf2
  have Ho := Lib.hid ho
  have Hn := Lib.hid hn
  have Hx := Lib.hid hx
  have HBl := Lib.hid hbl
  have HF2 := Lib.hid hf2
  have HB := Lib.hid hB
  clear ho hn hx hbl hf2 hB
  go_enter Try.func22, Try.ntmps22
  go_upto_region 2 with fail
  rw [HB.out]
  clear hW
  go_wp2
  go_loopw [5, 8] (fun _ v8 wr => ∃ i : Nat, i ≤ n ∧ v8 = .int .i64 (i : Int) ∧ Hid (Fr (fun k => B ≤ k) w wr) ∧ Hid (Lib.IsBuilder 79 5 B B (Lib.byteCells (allD L i)) wr)) (fun _ v8 _ => n - (intOf v8).toNat)
  case atStart => exact ⟨0, Nat.zero_le _, rfl, HF2, HBl⟩
  case round =>
    clear HF2 HBl
    obtain ⟨i, hi, rfl, KF, KB⟩ := hrel
    by_cases hlt : i < n
    · have hI : (i : Int) < (n : Int) := by omega
      have hi0 : (0 : Int) ≤ (i : Int) := by omega
      have hkL : i < L.length := by rw [Hn.out]; exact hlt
      have r1 := own_keep Ho.out KF.out (fun k hk e => by obtain ⟨cur, hc⟩ := own_ty Ho.out hk; have := lt_of_block hc; have := HB.out; have : B ≤ k := e; omega)
      obtain ⟨g, c, e1⟩ := own_slice r1 (by omega)
      injection e1 with e1 _ e3
      subst e1
      clear e3
      rw [← Hn.out] at r1
      obtain ⟨c0, c1⟩ := ent_cell r1 i hkL
      have hsm := (Hx.out i hkL).2
      have hts := allD_succ L i hkL
      have hle := sumN_le L Hx.out i (by omega)
      have hln := allD_length L i (by omega)
      obtain ⟨X, hX⟩ : ∃ X, (⟨(L[i]'hkL).1.toArray⟩ : ByteArray) = X := ⟨_, rfl⟩
      obtain ⟨Y, hY⟩ : ∃ Y, (⟨(L[i]'hkL).2.toArray⟩ : ByteArray) = Y := ⟨_, rfl⟩
      have zY : Y.size = (L[i]'hkL).2.length := by rw [← hY]; rfl
      have hYd : Y.data.toList = (L[i]'hkL).2 := by rw [← hY]
      rw [hX] at c0
      rw [hY] at c1
      rw [← hYd] at hts
      have hlB : (allD L i).length + Y.size ≤ 100000000 := by omega
      have HlB := Lib.hid hlB
      have Hts := Lib.hid hts
      clear r1 hX hY zY hYd hsm hts hle hln hlB
      go_upto_region 5 with fail
      have hst : ∃ W8, wr.alloc (.cells #[.string X, .string Y] 54) = W8 ∧ Fr (fun k => B ≤ k) w W8 ∧ Lib.IsBuilder 79 5 B B (Lib.byteCells (allD L i)) W8 ∧ W8.cell? ⟨wr.heap.size, 1, none⟩ = some (.string Y) :=
        ⟨_, rfl, KF.out.alloc _, bld_keep KB.out ((Fr.refl (fun _ => False) wr).alloc _), (cell_of (heap_alloc_new wr _) 1).trans rfl⟩
      obtain ⟨W8, hW8, hf8, hb8, hx8⟩ := hst
      rw [hW8]
      have BB := Lib.hid hb8
      have FF := Lib.hid hf8
      clear hW8 hf8 hb8 c0 c1 KF KB
      generalize wr.heap.size = xb at *
      go_wp2_with (go_at_call 31; refine (writeString_is B B (Lib.byteCells (allD L i)) Y _ BB.out (by rw [Lib.byteCells_length]; exact HlB.out) (by have := FF.out.size; have := HB.out; omega)).mono ?_; rintro e w6 ⟨rfl, h1, h2⟩; have B6 : Hid (Lib.IsBuilder 79 5 B B (Lib.byteCells (allD L (i + 1))) w6) := Lib.hid (.inr (by rw [bld_str, ← Lib.byteCells_append, ← Hts.out] at h1; exact h1)); have F6 := Lib.hid (FF.out.trans h2 (fun _ h => .inl h)); clear h1 h2)
      go_roundw
      case rel => exact ⟨i + 1, by omega, by go_num, F6, B6⟩
      case measure => simp [intOf]; omega
    · obtain rfl : i = n := by omega
      clear hlt hi
      go_wp2_with (go_at_call 33; refine (bldString_any B B (allD L i) wr KB.out).mono ?_; rintro e w7 ⟨rfl, h⟩; have F7 := Lib.hid (KF.out.trans (fr_below h) (fun _ h => .inl h)); clear h)
      go_ret
      exact ⟨rfl, F7.out.mono (fun k hk => .inr (by have := HB.out; have : B ≤ k := hk; omega))⟩

/-- So much of the sizes of items. -/
def sumS (l : List (List UInt8 × Nat)) : Nat → Nat
  | 0 => 0
  | i + 1 => sumS l i + (l.getD i ([], 0)).2
theorem sumS_itm (L : Ents) : ∀ i, i ≤ L.length → sumS (itm L) i = sumN L i
  | 0, _ => rfl
  | i + 1, h => by
    show sumS (itm L) i + ((itm L).getD i ([], 0)).2 = sumN L i + (L.getD i ([], [])).2.length
    rw [sumS_itm L i (by omega)]
    simp [itm, List.getD, List.getElem?_eq_getElem (show i < L.length by omega)]

set_option maxHeartbeats 4000000 in
set_option maxRecDepth 100000 in
theorem total_is (l : List (List UInt8 × Nat)) (n : Nat) (hn : l.length = n) (hb : n ≤ 1000) (hx : ∀ (k : Nat) (h : k < l.length), (l[k]).2 ≤ 1000000) (B0 : Nat) (v : Value) (w : World) (ho : w.ownsRow B0 48 2 v n (itemsV l)) :
    Calls Try.prog 23 #[v] w fun e w' => e = .returned (.int .i64 (sumS l n : Nat)) ∧ Fr (fun _ => False) w w' := by
  obtain ⟨a, p, hv⟩ := own_any ho
  subst hv
  have hbI : (n : Int) ≤ 1000 := by omega
  have Ho := Lib.hid ho
  have Hn := Lib.hid hn
  have Hx := Lib.hid hx
  clear ho hn hx
  go_enter Try.func23, Try.ntmps23
  go_upto_region 3 with fail
  go_loopw [3, 5, 8] (fun v3 _ v8 wr => ∃ i s : Nat, i ≤ n ∧ s ≤ 1000000 * i ∧ v8 = .int .i64 (i : Int) ∧ v3 = .int .i64 (s : Int) ∧ Hid (s = sumS l i) ∧ Hid (Fr (fun _ => False) w wr)) (fun _ _ v8 _ => n - (intOf v8).toNat)
  case atStart => exact ⟨0, 0, Nat.zero_le _, Nat.le_refl _, rfl, rfl, rfl, Fr.refl _ _⟩
  case round =>
    obtain ⟨i, s, hi, hs, rfl, rfl, KS, KF⟩ := hrel
    by_cases hlt : i < n
    · have hI : (i : Int) < (n : Int) := by omega
      have hi0 : (0 : Int) ≤ (i : Int) := by omega
      have hkL : i < l.length := by rw [Hn.out]; exact hlt
      have r1 := own_keep Ho.out KF.out (fun _ _ x => x)
      obtain ⟨g, c, e1⟩ := own_slice r1 (by omega)
      injection e1 with e1 _ e3
      subst e1
      clear e3
      rw [← Hn.out] at r1
      obtain ⟨c0, c1⟩ := item_cell r1 i hkL
      have hsm := Hx.out i hkL
      have hsu : sumS l (i + 1) = s + (l[i]'hkL).2 := by
        show sumS l i + (l.getD i ([], 0)).2 = _
        rw [← KS.out]
        simp [List.getD, List.getElem?_eq_getElem hkL]
      have Hsu := Lib.hid hsu
      clear r1 hsu
      generalize (⟨(l[i]'hkL).1.toArray⟩ : ByteArray) = X at *
      generalize (l[i]'hkL).2 = z at *
      have hzI : (z : Int) ≤ 1000000 := by omega
      go_wp2
      go_roundw
      case rel => exact ⟨i + 1, s + z, by omega, by omega, by go_num, by go_num, Lib.hid Hsu.out.symm, KF.out.alloc _⟩
      case measure => simp [intOf]; omega
    · obtain rfl : i = n := by omega
      clear hlt hi
      go_wp2
      go_ret
      exact ⟨by rw [KS.out]; rfl, KF.out⟩
end Go.Proofs.Ytlkiijojldnlbaa
