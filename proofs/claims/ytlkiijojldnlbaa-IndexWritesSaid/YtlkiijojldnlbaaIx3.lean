/- Layer 27 (index): the document's Decode. -/
import Derived.Test.YtlkiijojldnlbaaIx2
import Derived.Deep.RegionWith
namespace Go.Proofs.Ytlkiijojldnlbaa
set_option linter.unusedVariables false
open Go.RowKit Go.My Go.Ix

theorem ext_mid (l : List UInt8) (a c : Nat) : (⟨l.toArray⟩ : ByteArray).extract a c = ⟨((l.drop a).take (c - a)).toArray⟩ := by
  apply ByteArray.ext
  apply Array.ext'
  simp [ByteArray.data_extract]
theorem infoIr : (Try.prog.info? 47).map (fun i => (i.zero, i.size, i.bytes)) = some (some (.agg #[.string ByteArray.empty, .int .i64 0]), 2, 24) := by kernel_rfl
theorem slice_is (s : ByteArray) (a c : Nat) (h1 : a ≤ c) (h2 : c ≤ s.size) (sub : ByteArray) (hs : s.extract a c = sub) (x y : Int) (hx : x = a) (hy : y = c) (w : World) : (Instr.slice 9 (.string s) (some (.int .i64 x)) (some (.int .i64 y)) none).run Try.prog w = .ok (.string sub) w := by
  subst hx hy
  have h := run_slice_string (P := Try.prog) w 9 s .i64 .i64 (a : Int) (c : Int) Try.underlying9 (by omega) (by omega) (by omega)
  rw [h, ← hs]
  rfl

set_option maxHeartbeats 8000000 in
set_option maxRecDepth 100000 in
theorem refDecode_is (b : List UInt8) (hb : b.length ≤ 1000) (w : World) :
    Calls Try.prog 18 #[.string ⟨b.toArray⟩] w fun e w' => (match decR b with | none => ∃ v, e = .returned (.tuple #[v, .bool false]) | some l => ∃ v, w'.ownsRow w.heap.size 47 2 v l.length (itemsV l) ∧ e = .returned (.tuple #[v, .bool true])) ∧ Fr (fun _ => False) w w' := by
  obtain ⟨D, hD⟩ : ∃ D, decR b = D := ⟨_, rfl⟩
  rw [hD]
  have HD := Lib.hid hD
  clear hD
  obtain ⟨i0, hi0', hz0, hz1, hz2⟩ := info_parts infoIr
  have Hi := Lib.hid hi0'
  have Hz0 := Lib.hid hz0
  have Hz1 := Lib.hid hz1
  have Hz2 := Lib.hid hz2
  clear hi0' hz0 hz1 hz2
  by_cases h4 : 4 ≤ b.length
  · obtain ⟨S, hS⟩ : ∃ S : ByteArray, (⟨b.toArray⟩ : ByteArray) = S := ⟨_, rfl⟩
    have hSs : S.size = b.length := by rw [← hS]; rfl
    have hx4 : S.extract 0 4 = ⟨(b.take 4).toArray⟩ := by rw [← hS, ext_take]
    have hd4 : S.extract 4 S.size = ⟨(b.drop 4).toArray⟩ := by rw [← hS, ext_drop]
    obtain ⟨X4, hX4⟩ : ∃ X : ByteArray, (⟨(b.take 4).toArray⟩ : ByteArray) = X := ⟨_, rfl⟩
    obtain ⟨Y4, hY4⟩ : ∃ X : ByteArray, (⟨(b.drop 4).toArray⟩ : ByteArray) = X := ⟨_, rfl⟩
    have hnum := fun U => refNumber_is X4 (b.take 4) (by rw [← hX4]) (by rw [List.length_take]; omega) U
    have hN5 := le_small (b.take 4) (by rw [List.length_take]; omega)
    rw [hX4] at hx4
    rw [hY4] at hd4
    rw [hS]
    obtain ⟨N, hN⟩ : ∃ N, le (b.take 4) = N := ⟨_, rfl⟩
    rw [hN] at hnum hN5
    have HNm := Lib.hid hnum
    have HN := Lib.hid hN
    have HY4 := Lib.hid hY4
    have h4I : ¬ ((b.length : Int) < 4) := by omega
    have h4J : (4 : Int) ≤ (b.length : Int) := by omega
    have h4n : 4 ≤ b.length := h4
    rw [hSs] at hd4
    clear hnum hN hS hX4 hY4
    go_enter Try.func18, Try.ntmps18
    go_upto_region 4 with (go_at_call 29; refine (HNm.out _).mono ?_; rintro e w1 ⟨rfl, hw⟩; rw [hw]; clear hw)
    go_upto_region 5 with fail
    have hd4' := hd4
    clear hx4
    rw [← HY4.out]
    clear hd4 hd4' HNm HY4 h4I h4J hSs
    go_wp2
    go_loopw [0, 5, 6, 7, 8, 9] (fun v0 v5 v6 v7 _ _ wr => ∃ (i t : Nat) (r : List UInt8) (l : List (List UInt8 × Nat)), i ≤ N ∧ v7 = .int .i64 (i : Int) ∧ v5 = .int .i64 (t : Int) ∧ v0 = .string ⟨r.toArray⟩ ∧ Hid (stN b i = some (r, t, l)) ∧ Hid (wr.ownsRow w.heap.size 47 2 v6 l.length (itemsV l)) ∧ Hid (Fr (fun _ => False) w wr)) (fun _ _ _ v7 _ _ _ => N - (intOf v7).toNat)
    case atStart => exact ⟨0, 0, b.drop 4, [], Nat.zero_le _, rfl, rfl, rfl, rfl, ⟨rfl, .inl ⟨rfl, rfl⟩⟩, Fr.refl _ _⟩
    case round =>
      obtain ⟨i, t, r, l, hi, rfl, rfl, rfl, KS, KW, KF⟩ := hrel
      have hln := stN_len h4n i KS.out
      obtain ⟨hl1, hll, ht⟩ := hln
      obtain ⟨S, hS⟩ : ∃ S : ByteArray, (⟨r.toArray⟩ : ByteArray) = S := ⟨_, rfl⟩
      have hSs : S.size = r.length := by rw [← hS]; rfl
      by_cases hlt : i < N
      · have hI : (i : Int) < (N : Int) := by omega
        have hstep := dec_step (b := b) (i := i) (by rw [HN.out]; exact hlt) KS.out
        have hnext := stN_next KS.out
        have Hstep := Lib.hid hstep
        have Hnext := Lib.hid hnext
        clear hstep hnext
        by_cases h2 : r.length < 2
        · have hD : D = none := by rw [← HD.out]; exact Hstep.out (by unfold st1; rw [if_pos h2])
          subst hD
          have h2I : (r.length : Int) < 2 := by omega
          rw [hS]
          clear hS
          go_wp2
          go_ret2
          first | exact ⟨⟨_, rfl⟩, KF.out⟩ | exact KF.out
        · have h2I : ¬ (r.length : Int) < 2 := by omega
          have h2J : (2 : Int) ≤ (r.length : Int) := by omega
          have hx2 : S.extract 0 2 = ⟨(r.take 2).toArray⟩ := by rw [← hS, ext_take]
          obtain ⟨X2, hX2⟩ : ∃ X : ByteArray, (⟨(r.take 2).toArray⟩ : ByteArray) = X := ⟨_, rfl⟩
          have hnum := fun U => refNumber_is X2 (r.take 2) (by rw [← hX2]) (by rw [List.length_take]; omega) U
          rw [hX2] at hx2
          have hk5 := le_small (r.take 2) (by rw [List.length_take]; omega)
          obtain ⟨k, hk⟩ : ∃ k, le (r.take 2) = k := ⟨_, rfl⟩
          rw [hk] at hnum hk5
          have HNm := Lib.hid hnum
          have Hk := Lib.hid hk
          have HS := Lib.hid hS
          rw [hS]
          clear hnum hk hX2 hS
          go_upto_region 12 with (go_at_call 29; refine (HNm.out _).mono ?_; rintro e w1 ⟨rfl, hw⟩; rw [hw]; clear hw)
          have e6 : IntKind.i64.wrap (6 + (k : Int)) = ((6 + k : Nat) : Int) := by rw [IntWalk.i64_in _ (by omega)]; omega
          clear hx2
          by_cases hs1 : r.length < 6 + k
          · have hD : D = none := by rw [← HD.out]; exact Hstep.out (by unfold st1; rw [if_neg h2, Hk.out, if_pos (.inl hs1)])
            subst hD
            have hs1I : (r.length : Int) < 6 + (k : Int) := by omega
            go_wp2
            go_ret2
            first | exact ⟨⟨_, rfl⟩, KF.out⟩ | exact KF.out
          · have hs1I : ¬ (r.length : Int) < 6 + (k : Int) := by omega
            by_cases hs2 : 1024 < k
            · have hD : D = none := by rw [← HD.out]; exact Hstep.out (by unfold st1; rw [if_neg h2, Hk.out, if_pos (.inr hs2)])
              subst hD
              have hs2I : (1024 : Int) < (k : Int) := by omega
              go_wp2
              go_ret2
              first | exact ⟨⟨_, rfl⟩, KF.out⟩ | exact KF.out
            · have hs2I : ¬ (1024 : Int) < (k : Int) := by omega
              obtain ⟨a, ha⟩ : ∃ a, 2 + k = a := ⟨_, rfl⟩
              obtain ⟨c, hc⟩ : ∃ c, 6 + k = c := ⟨_, rfl⟩
              have ea : IntKind.i64.wrap (a : Int) = (a : Int) := IntWalk.i64_in _ (by omega)
              have ea2 : 2 + (k : Int) = (a : Int) := by omega
              have ec : IntKind.i64.wrap (c : Int) = (c : Int) := IntWalk.i64_in _ (by omega)
              have ec2 : 6 + (k : Int) = (c : Int) := by omega
              have hx1 : S.extract 2 a = ⟨((r.drop 2).take k).toArray⟩ := by rw [← HS.out, ext_mid, ← ha, show 2 + k - 2 = k by omega]
              have hx3 : S.extract a c = ⟨(((r.drop 2).drop k).take 4).toArray⟩ := by rw [← HS.out, ext_mid, ← ha, ← hc, show 6 + k - (2 + k) = 4 by omega, List.drop_drop]
              have hxe : S.extract c S.size = ⟨(((r.drop 2).drop k).drop 4).toArray⟩ := by rw [← HS.out, ext_drop, ← hc, List.drop_drop, List.drop_drop, show 2 + (k + 4) = 6 + k by omega]
              obtain ⟨X1, hX1⟩ : ∃ X : ByteArray, (⟨((r.drop 2).take k).toArray⟩ : ByteArray) = X := ⟨_, rfl⟩
              obtain ⟨X3, hX3⟩ : ∃ X : ByteArray, (⟨(((r.drop 2).drop k).take 4).toArray⟩ : ByteArray) = X := ⟨_, rfl⟩
              obtain ⟨XE, hXE⟩ : ∃ X : ByteArray, (⟨(((r.drop 2).drop k).drop 4).toArray⟩ : ByteArray) = X := ⟨_, rfl⟩
              have hn3 := fun U => refNumber_is X3 (((r.drop 2).drop k).take 4) (by rw [← hX3]) (by rw [List.length_take]; omega) U
              have hz5 := le_small (((r.drop 2).drop k).take 4) (by rw [List.length_take]; omega)
              have hnx := Hnext.out
              have hst0 := Hstep.out
              unfold st1 at hnx hst0
              rw [if_neg h2, Hk.out, if_neg (by omega)] at hnx hst0
              obtain ⟨z, hz⟩ : ∃ z, le (((r.drop 2).drop k).take 4) = z := ⟨_, rfl⟩
              rw [hz] at hn3 hz5 hnx hst0
              rw [hX1] at hx1
              rw [hX3] at hx3
              rw [hXE] at hxe
              have sl1 := fun U => slice_is S 2 a (by omega) (by omega) X1 hx1 2 (a : Int) rfl rfl U
              have sl3 := fun U => slice_is S a c (by omega) (by omega) X3 hx3 (a : Int) (c : Int) rfl rfl U
              have HN3 := Lib.hid hn3
              have Hnx := Lib.hid hnx
              have Hst0 := Lib.hid hst0
              have HX1 := Lib.hid hX1
              have HXE := Lib.hid hXE
              have hcI : (c : Int) ≤ (r.length : Int) := by omega
              have hc0 : (0 : Int) ≤ (c : Int) := by omega
              rw [hSs] at hxe
              clear hx1 hx3 hn3 hnx hst0 hX1 hX3 hXE hz Hstep Hnext Hk HNm e6
              go_upto_region 14 with fail
              go_region_with (go_at_call 29; refine (HN3.out _).mono ?_; rintro e w1 ⟨rfl, hw⟩; rw [hw]; clear hw)
              all_goals
                have hst : ∃ W5 xb, (wr.alloc (.cells #[.string X1, .int .i64 (z : Int)] 47)).drew = W5 ∧ wr.heap.size = xb ∧ Fr (fun _ => False) w W5 ∧ W5.ownsRow w.heap.size 47 2 u6 l.length (itemsV l) ∧ W5.heap[xb]? = some (.cells #[.string X1, .int .i64 (z : Int)] 47 (0, 0)) :=
                  ⟨_, _, rfl, rfl, (KF.out.alloc _).drew, own_keep KW.out (((Fr.refl (fun _ => False) wr).alloc _).drew) (fun _ _ x => x), heap_alloc_new wr _⟩
                obtain ⟨W5, xb, hW5, hxb, hfr, hrow, hblk⟩ := hst
                rw [hW5, hxb]
                have HFr := Lib.hid hfr
                have HRow := Lib.hid hrow
                have d0 : W5.cell? ⟨xb, 0, none⟩ = some (.string X1) := (cell_of hblk 0).trans rfl
                have d1 : W5.cell? ⟨xb, 1, none⟩ = some (.int .i64 (z : Int)) := (cell_of hblk 1).trans rfl
                have hxl := lt_of_block hblk
                clear hW5 hxb hfr hrow hblk sl1 sl3 HN3 KW KF
                have et : IntKind.i64.wrap ((t : Int) + (z : Int)) = ((t + z : Nat) : Int) := by rw [IntWalk.i64_in _ (by omega)]; omega
                obtain ⟨tz, htz⟩ : ∃ x, t + z = x := ⟨_, rfl⟩
                have et2 : (t : Int) + (z : Int) = (tz : Int) := by omega
                have et3 : IntKind.i64.wrap (tz : Int) = (tz : Int) := IntWalk.i64_in _ (by omega)
                rw [htz] at et Hnx Hst0
                by_cases hbad : 16777216 < tz
                · have hD : D = none := by rw [← HD.out]; exact Hst0.out (by rw [if_pos hbad])
                  subst hD
                  have hbI : (16777216 : Int) < (tz : Int) := by omega
                  clear hbad htz
                  go_wp2
                  go_ret2
                  first | exact ⟨⟨_, rfl⟩, HFr.out⟩ | exact HFr.out
                · have hbI : ¬ (16777216 : Int) < (tz : Int) := by omega
                  have hnx := Hnx.out
                  rw [if_neg hbad] at hnx
                  dsimp only at hnx
                  have Hnx2 := Lib.hid hnx
                  rw [hll] at HRow
                  obtain ⟨ad, cap, hv⟩ := own_any HRow.out
                  subst hv
                  have hiB : i ≤ 1000 := by omega
                  clear hbad hnx Hnx Hst0 htz
                  go_wp2_with (at_builtin; refine wpList_append_my _ rfl _ _ 43 rfl w.heap.size 47 i0 (.agg #[.string ByteArray.empty, .int .i64 0]) 2 24 Try.underlying43 Hi.out Hz0.out Hz1.out Hz2.out rfl (by decide) (.slice ad i cap) i _ (by rfl) (HRow.out.alloc _) ⟨_, 0, none⟩ 1 1 [.string X1, .int .i64 (z : Int)] (by rfl) (by rfl) (World.news_of_block (cs := #[.string X1, .int .i64 (z : Int)]) (t := 47) (fr := (0, 0)) (heap_alloc_new _ _)) (by simp [Value.oneCell']) (by omega) (by unfold maxLen; omega) (by omega) (by have := HFr.out.size; simp; omega) _ rfl ?_; intro g cap2 w6 hown hgrow hat hlt2 hsame; have IB := Lib.hid hown; have IF : Hid (Fr (fun _ => False) w w6) := Lib.hid ((HFr.out.alloc _).grown hgrow (fun k hk => .inr (own_base HRow.out hk))); clear hown hgrow hat hlt2 hsame)
                  go_roundw
                  case rel =>
                    refine ⟨i + 1, tz, ((r.drop 2).drop k).drop 4, l ++ [((r.drop 2).take k, z)], hlt, by go_num, rfl, by rw [HXE.out], Hnx2.out, ?_, IF⟩
                    rw [itemsV_snoc, List.length_append, hll, HX1.out]
                    exact IB
                  case measure => simp [intOf]; omega
      · obtain rfl : i = N := by omega
        have hI : ¬ (i : Int) < (i : Int) := by omega
        have hdec : decR b = if r = [] ∧ i ≤ 1024 then some l else none := by
          unfold decR
          rw [if_neg (by omega), HN.out, KS.out]
        rw [hS]
        by_cases hre : r = []
        · subst hre
          have hi2 : i ≤ 1024 := by omega
          have hD : D = some l := by rw [← HD.out, hdec, if_pos ⟨rfl, hi2⟩]
          subst hD
          have hI2 : (i : Int) ≤ 1024 := by omega
          have hS0 : (S.size : Int) = 0 := by rw [hSs]; rfl
          clear hdec hlt hi hS hSs hl1
          go_wp2
          go_ret2
          exact ⟨⟨u6, by have h := KW.out; rw [hll] at h; exact h, rfl⟩, KF.out⟩
        · have hD : D = none := by rw [← HD.out, hdec, if_neg (fun h => hre h.1)]
          subst hD
          have hr0 : 0 < r.length := List.length_pos_iff.2 hre
          have hne : ¬ (r.length : Int) = 0 := by omega
          have hneB : ((r.length : Int) == 0) = false := (show ∀ a : Int, ¬ a = 0 → (a == 0) = false from fun a h => by simp [h]) _ hne
          clear hdec hlt hi hS hr0
          go_wp2
          go_ret2
          first | exact ⟨⟨_, rfl⟩, KF.out⟩ | exact KF.out
  · have hD : D = none := by rw [← HD.out]; unfold decR; rw [if_pos (by omega)]
    subst hD
    obtain ⟨S, hS⟩ : ∃ S : ByteArray, (⟨b.toArray⟩ : ByteArray) = S := ⟨_, rfl⟩
    have hSs : S.size = b.length := by rw [← hS]; rfl
    rw [hS]
    have h4I : (b.length : Int) < 4 := by omega
    clear hS
    go_enter Try.func18, Try.ntmps18
    go_wp2
    go_ret2
    first | exact ⟨⟨_, rfl⟩, Fr.refl _ _⟩ | exact Fr.refl _ _
end Go.Proofs.Ytlkiijojldnlbaa
