/- Layer 27 (index): IndexWrites' own pieces: entries told, their text, their total, parted again. -/
import Derived.Test.YtlkiijojldnlbaaIxA
import Derived.Test.YtlkiijojldnlbaaOpn
import Derived.Test.YtlkiijojldnlbaaMx
namespace Go.Proofs.Ytlkiijojldnlbaa
set_option linter.unusedVariables false
open Go.RowKit Go.My Go.Ix Go.ChangeShapes Go.WideShapes Go.ChangeAt Go.Deep

theorem cells_ent : Try.prog.cellsOf 86 = 2 := by kernel_rfl
theorem cells_str : Try.prog.cellsOf 9 = 1 := by kernel_rfl
/-- Two texts. -/
structure EnAt (w : World) (b o : Nat) (x : ByteArray × ByteArray) : Prop where
  c0 : w.cell? ⟨b, o, none⟩ = some (.string x.1)
  c1 : w.cell? ⟨b, o + 1, none⟩ = some (.string x.2)
theorem open_ents {H : Type} {enc : TypeId × Value → H} {W : World} {base : Nat} {spare : Nat → Bool} {held : Bool} {a : Option Addr} {len cap : Nat} {d : DataW H} {p : List MemPlace}
    (h : DataW.Trod enc Try.prog W base spare held 58 (.slice a len cap) d p) :
    len ≤ 9223372036854775807 ∧ ∃ f : Nat → ByteArray × ByteArray, (∀ i, (f i).1.size ≤ maxLen ∧ (f i).2.size ≤ maxLen) ∧ ∀ i, i < len → ∃ b off, a = some ⟨b, off, none⟩ ∧ EnAt W b (off + i * 2) (f i) :=
  open_elems Try.underlying58 cells_ent (by decide) (fun n : ByteArray × ByteArray => n.1.size ≤ maxLen ∧ n.2.size ≤ maxLen) (fun b o n => EnAt W b o n) (ByteArray.empty, ByteArray.empty) (by decide) (fun {n i b off cs x} hc ht => by
    have hcell := World.cells?_some hc
    obtain ⟨xs, m, _, _, _, hl, hg⟩ := DataW.trod_struct Try.underlying86 ht
    match cs, hcell.2.1 with
    | [u0, u1], _ =>
      match xs, hl with
      | [y0, y1], _ =>
        have h0 := hg 0 _ rfl
        have h1 := hg 1 _ rfl
        obtain ⟨s0, e0, _, w0⟩ := DataW.trod_string (cs := [u0]) Try.underlying9 h0
        obtain ⟨s1, e1, _, w1⟩ := DataW.trod_string (cs := [u1]) Try.underlying9 h1
        simp at e0 e1
        subst e0 e1
        have g0 := hcell.2.2 0 (by decide)
        have g1 := hcell.2.2 1 (by decide)
        rw [plain_add] at g0 g1
        exact ⟨(s0, s1), ⟨w0, w1⟩, ⟨by simpa using g0, by simpa using g1⟩⟩) h

/-- What is told of texts. -/
def told (f : Nat → ByteArray × ByteArray) (k : Nat) : Ents := (List.range k).map fun i => ((f i).1.data.toList.take 40, (f i).2.data.toList.take 200)
theorem told_length (f : Nat → ByteArray × ByteArray) (k : Nat) : (told f k).length = k := by simp [told]
theorem told_snoc (f : Nat → ByteArray × ByteArray) (k : Nat) : told f (k + 1) = told f k ++ [((f k).1.data.toList.take 40, (f k).2.data.toList.take 200)] := by simp [told, List.range_succ]
theorem entsV_snoc (L : Ents) (x : List UInt8 × List UInt8) : entsV (L ++ [x]) = entsV L ++ [.string ⟨x.1.toArray⟩, .string ⟨x.2.toArray⟩] := by simp [entsV]

set_option maxHeartbeats 4000000 in
set_option maxRecDepth 100000 in
theorem told_is (f : Nat → ByteArray × ByteArray) (hf : ∀ i, (f i).1.size ≤ maxLen ∧ (f i).2.size ≤ maxLen) (ao : Option Addr) (len cap : Nat) (hlen : len ≤ 9223372036854775807) (n : Nat) (hn : n = min len 12) (w : World)
    (hc : ∀ i, i < len → ∃ B off, ao = some ⟨B, off, none⟩ ∧ EnAt w B (off + i * 2) (f i)) :
    Calls Try.prog 20 #[.slice ao len cap] w fun e w' => ∃ v, e = .returned v ∧ w'.ownsRow w.heap.size 54 2 v n (entsV (told f n)) ∧ Fr (fun _ => False) w w' := by
  obtain ⟨i0, hi, hz0, hz1, hz2⟩ := info_parts infoEn
  have Hi := Lib.hid hi
  have Hz0 := Lib.hid hz0
  have Hz1 := Lib.hid hz1
  have Hz2 := Lib.hid hz2
  have Hc := Lib.hid hc
  have HF := Lib.hid hf
  clear hi hz0 hz1 hz2 hc hf
  go_enter Try.func20, Try.ntmps20
  go_upto_region 3 with fail
  go_loopw [3, 4] (fun v3 v4 wr => ∃ k : Nat, k ≤ n ∧ v4 = .int .i64 (k : Int) ∧ Hid (wr.ownsRow w.heap.size 54 2 v3 k (entsV (told f k))) ∧ Hid (Fr (fun _ => False) w wr)) (fun _ v4 _ => n - (intOf v4).toNat)
  case atStart => exact ⟨0, Nat.zero_le _, rfl, ⟨rfl, .inl ⟨rfl, rfl⟩⟩, Fr.refl _ _⟩
  case round =>
    obtain ⟨k, hk, rfl, KW, KF⟩ := hrel
    by_cases hlt : k < n
    · have hkl : k < len := by omega
      have hk12 : k < 12 := by omega
      have hI : (k : Int) < (len : Int) := by omega
      have hI2 : (k : Int) < 12 := by omega
      have hk0 : (0 : Int) ≤ (k : Int) := by omega
      obtain ⟨B, off, hao, hat⟩ := Hc.out k hkl
      subst hao
      obtain ⟨a3, p3, hv3⟩ := own_any KW.out
      subst hv3
      go_upto_region 5 with fail
      obtain ⟨X, hX⟩ : ∃ X, (f k).1 = X := ⟨_, rfl⟩
      obtain ⟨Y, hY⟩ : ∃ Y, (f k).2 = Y := ⟨_, rfl⟩
      have hz1 : X.size ≤ 9223372036854775807 := by have := (HF.out k).1; rw [hX] at this; unfold maxLen at this; omega
      have hz2 : Y.size ≤ 9223372036854775807 := by have := (HF.out k).2; rw [hY] at this; unfold maxLen at this; omega
      have hq0 : wr.drew.cell? ⟨B, off + k * 2, none⟩ = some (.string X) := by rw [← hX]; exact KF.out.cell_ hat.c0 (fun x => x)
      have hq1 : wr.drew.cell? ⟨B, off + k * 2 + 1, none⟩ = some (.string Y) := by rw [← hY]; exact KF.out.cell_ hat.c1 (fun x => x)
      have q0 : ∀ u : InW (Fr NoF wr.drew), u.to.cell? ⟨B, off + k * 2, none⟩ = some (.string X) := fun u => u.ok.cell_ hq0 (fun x => x)
      have q1 : ∀ u : InW (Fr NoF wr.drew), u.to.cell? ⟨B, off + k * 2 + 1, none⟩ = some (.string Y) := fun u => u.ok.cell_ hq1 (fun x => x)
      clear hq0 hq1
      have HX := Lib.hid hX
      have HY := Lib.hid hY
      clear hX hY hat
      refine wp_region_mix 29 [(0, true), (1, true), (2, true), (3, true), (4, true), (5, true), (6, true), (7, true), (8, true), (9, true), (10, true), (11, true), (12, true), (13, true), (14, true), (15, true), (16, true), (17, true), (18, true), (19, true), (20, true), (21, true), (22, true), (23, true), (24, true), (25, true), (26, true), (27, true), (28, false)] (by kernel_rfl) (by kernel_rfl) ?_
      simp only [planOps, List.getElem?_cons_zero, List.getElem?_cons_succ, List.drop_succ_cons, List.drop_zero]
      obtain ⟨m1, hm1⟩ : ∃ m, min X.size 40 = m := ⟨_, rfl⟩
      obtain ⟨m2, hm2⟩ : ∃ m, min Y.size 200 = m := ⟨_, rfl⟩
      have em1 : min (X.size : Int) 40 = (m1 : Int) := by omega
      have em2 : min (Y.size : Int) 200 = (m2 : Int) := by omega
      have b1 : (m1 : Int) ≤ (X.size : Int) := by omega
      have b2 : (m2 : Int) ≤ (Y.size : Int) := by omega
      have p1 : (0 : Int) ≤ (m1 : Int) := by omega
      have p2 : (0 : Int) ≤ (m2 : Int) := by omega
      have Hm1 := Lib.hid hm1
      have Hm2 := Lib.hid hm2
      clear hm1 hm2
      repeat (first | (refine mix_skip (by rfl) ?_; (simp only [Act.put, List.setIfInBounds_toArray, List.set_cons_zero, List.set_cons_succ])) | (refine mix_step (by rfl) ?_; apply Exists.intro; refine ⟨fun u => ?_, ?_⟩; (focus (unfold quietF; go_simp; first | done | exact ⟨rfl, rfl⟩)); (simp only [Act.put, List.setIfInBounds_toArray, List.set_cons_zero, List.set_cons_succ])))
      refine mix_loud (by rfl) (fun w1 hf1 K hK => ?_)
      go_simp
      refine hK.out _ _ ((Fr.refl _ _).alloc _) ?_
      clear hK K
      refine mix_nil (fun w2 hf2 => ?_)
      have hblk := hf2.keep (heap_alloc_new w1 (.cells #[.string (X.extract 0 m1), .string (Y.extract 0 m2)] 54)) (fun x => x)
      have hfA : Fr (fun _ => False) wr w2 := (((Fr.refl _ wr).drew.trans hf1 (fun _ h => .inl h)).alloc _).trans hf2 (fun _ h => .inl h)
      have hrow := own_keep KW.out hfA (fun _ _ x => x)
      have hsz : w.heap.size ≤ w2.heap.size := Nat.le_trans KF.out.size hfA.size
      generalize w1.heap.size = nb at *
      have HFA := Lib.hid (KF.out.trans hfA (fun _ h => .inl h))
      have HRow := Lib.hid hrow
      have HBlk := Lib.hid hblk
      have Hsz := Lib.hid hsz
      have e1 : (X.extract 0 m1) = ⟨(X.data.toList.take 40).toArray⟩ := by
        apply ByteArray.ext
        apply Array.ext'
        have h1 : X.size = X.data.toList.length := by simp
        simp only [ByteArray.data_extract, Array.toList_extract]
        rw [show X.data.toList.extract 0 m1 = X.data.toList.take m1 by simp, ← Hm1.out, h1, Nat.min_comm]
        exact (List.take_eq_take_min ..).symm
      have e2 : (Y.extract 0 m2) = ⟨(Y.data.toList.take 200).toArray⟩ := by
        apply ByteArray.ext
        apply Array.ext'
        have h1 : Y.size = Y.data.toList.length := by simp
        simp only [ByteArray.data_extract, Array.toList_extract]
        rw [show Y.data.toList.extract 0 m2 = Y.data.toList.take m2 by simp, ← Hm2.out, h1, Nat.min_comm]
        exact (List.take_eq_take_min ..).symm
      have He1 := Lib.hid e1
      have He2 := Lib.hid e2
      clear hf1 hf2 hblk hfA hrow hsz q0 q1 KW KF em1 em2 b1 b2 p1 p2 e1 e2
      generalize X.extract 0 m1 = X1 at *
      generalize Y.extract 0 m2 = Y1 at *
      go_wp2_with (at_builtin; refine wpList_append_my _ rfl _ _ 51 rfl w.heap.size 54 i0 (.agg #[.string ByteArray.empty, .string ByteArray.empty]) 2 32 Try.underlying51 Hi.out Hz0.out Hz1.out Hz2.out rfl (by decide) (.slice a3 k p3) k _ (by rfl) HRow.out ⟨nb, 0, none⟩ 1 1 [.string X1, .string Y1] (by rfl) (by rfl) (World.news_of_block (cs := #[.string X1, .string Y1]) (t := 54) (fr := (0, 0)) HBlk.out) (by simp [Value.oneCell']) (by omega) (by unfold maxLen; omega) (by omega) Hsz.out _ rfl ?_; intro g cap2 w6 hown hgrow hat hlt2 hsame; have IB := Lib.hid hown; have IF : Hid (Fr (fun _ => False) w w6) := Lib.hid (HFA.out.grown hgrow (fun k hk => .inr (own_base HRow.out hk))); clear hown hgrow hat hlt2 hsame)
      go_roundw
      case rel =>
        refine ⟨k + 1, hlt, by go_num, ?_, IF⟩
        rw [told_snoc, entsV_snoc, HX.out, HY.out]
        dsimp only
        rw [← He1.out, ← He2.out]
        exact IB
      case measure => simp [intOf]; omega
    · obtain rfl : k = n := by omega
      clear hlt hk
      by_cases hkl : k < len
      · have hI : (k : Int) < (len : Int) := by omega
        have hI2 : ¬ (k : Int) < 12 := by omega
        clear hn
        go_wp2
        go_ret
        exact ⟨_, rfl, KW.out, KF.out⟩
      · have hI : ¬ (k : Int) < (len : Int) := by omega
        clear hn
        go_wp2
        go_ret
        exact ⟨_, rfl, KW.out, KF.out⟩
end Go.Proofs.Ytlkiijojldnlbaa
