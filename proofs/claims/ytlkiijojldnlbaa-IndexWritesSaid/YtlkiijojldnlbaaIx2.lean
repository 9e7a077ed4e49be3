/- Layer 27 (index): Decode. -/
import Derived.Test.YtlkiijojldnlbaaIxP
namespace Go.Proofs.Ytlkiijojldnlbaa
set_option linter.unusedVariables false
open Go.RowKit Go.My Go.Ix

theorem ext_take (l : List UInt8) (n : Nat) : (⟨l.toArray⟩ : ByteArray).extract 0 n = ⟨(l.take n).toArray⟩ := by
  apply ByteArray.ext
  apply Array.ext'
  simp [ByteArray.data_extract]
theorem ext_drop (l : List UInt8) (n : Nat) : (⟨l.toArray⟩ : ByteArray).extract n (⟨l.toArray⟩ : ByteArray).size = ⟨(l.drop n).toArray⟩ := by
  apply ByteArray.ext
  apply Array.ext'
  have : (⟨l.toArray⟩ : ByteArray).size = l.length := rfl
  simp [ByteArray.data_extract, this]
  exact List.take_of_length_le (by simp)
abbrev RdL (w : World) (p : Nat) (l : List UInt8) (sh : Bool) : Prop := Rd w p ⟨l.toArray⟩ sh
theorem rawL_ok (p : Nat) (l : List UInt8) (n : Nat) (hn : n ≤ l.length) (hS : l.length ≤ 1000000000) (w : World) (h : RdL w p l false) :
    Calls Try.prog 28 #[.pointer (some ⟨p, 0, none⟩), .int .i64 (n : Int)] w fun e w' => e = .returned (.string ⟨(l.take n).toArray⟩) ∧ RdL w' p (l.drop n) false ∧ Fr (fun k => k = p) w w' := by
  have h1 := raw_ok p ⟨l.toArray⟩ n hn hS w h
  rw [ext_take, ext_drop] at h1
  exact h1
theorem numL_ok (p : Nat) (l : List UInt8) (n : Nat) (hn : n ≤ l.length) (h4 : n ≤ 4) (hS : l.length ≤ 1000000000) (w : World) (h : RdL w p l false) :
    Calls Try.prog 27 #[.pointer (some ⟨p, 0, none⟩), .int .i64 (n : Int)] w fun e w' => e = .returned (.int .i64 (le (l.take n) : Nat)) ∧ RdL w' p (l.drop n) false ∧ Fr (fun k => k = p) w w' := by
  have h1 := number_ok p ⟨l.toArray⟩ n hn h4 hS l rfl w h
  rw [ext_drop] at h1
  exact h1
theorem rawL_bad (p : Nat) (l : List UInt8) (sh : Bool) (n : Nat) (hb : sh = true ∨ l.length < n) (w : World) (h : RdL w p l sh) :
    Calls Try.prog 28 #[.pointer (some ⟨p, 0, none⟩), .int .i64 (n : Int)] w fun e w' => e = .returned (.string ⟨([] : List UInt8).toArray⟩) ∧ RdL w' p l true ∧ Fr (fun k => k = p) w w' := raw_bad p ⟨l.toArray⟩ sh n hb w h
theorem numL_bad (p : Nat) (l : List UInt8) (sh : Bool) (n : Nat) (hb : sh = true ∨ l.length < n) (w : World) (h : RdL w p l sh) :
    Calls Try.prog 27 #[.pointer (some ⟨p, 0, none⟩), .int .i64 (n : Int)] w fun e w' => e = .returned (.int .i64 ((0 : Nat) : Int)) ∧ RdL w' p l true ∧ Fr (fun k => k = p) w w' := number_bad p ⟨l.toArray⟩ sh n hb w h
def itemsV (l : List (List UInt8 × Nat)) : List Value := l.flatMap fun x => [Value.string ⟨x.1.toArray⟩, .int .i64 (x.2 : Int)]
theorem itemsV_snoc (l : List (List UInt8 × Nat)) (x : List UInt8 × Nat) : itemsV (l ++ [x]) = itemsV l ++ [.string ⟨x.1.toArray⟩, .int .i64 (x.2 : Int)] := by simp [itemsV]
theorem infoIt : (Try.prog.info? 48).map (fun i => (i.zero, i.size, i.bytes)) = some (some (.agg #[.string ByteArray.empty, .int .i64 0]), 2, 24) := by kernel_rfl

/-- What one item comes to: its name, its number, what the reader is then. -/
structure Got (b r : List UInt8) (i t : Nat) (l : List (List UInt8 × Nat)) (nm : List UInt8) (z : Nat) (r3 : List UInt8) (sh : Bool) : Prop where
  small : nm.length ≤ 5000000 ∧ z < 4294967296
  no : (1024 < nm.length ∨ 16777216 < t + z) → decR b = none
  yes : nm.length ≤ 1024 → t + z ≤ 16777216 → (sh = true ∧ decR b = none) ∨ (sh = false ∧ stN b (i + 1) = some (r3, t + z, l ++ [(nm, z)]))

theorem got_all {b r : List UInt8} {i t : Nat} {l : List (List UInt8 × Nat)} (hr : r.length ≤ 4000000) (hst : stN b i = some (r, t, l)) (hi : i < le (b.take 4)) (p : Nat) :
    ∃ (k : Nat) (rA : List UInt8) (shA : Bool) (nm rB : List UInt8) (shB : Bool) (z : Nat) (r3 : List UInt8) (sh3 : Bool),
      (∀ U, RdL U p r false → Calls Try.prog 27 #[.pointer (some ⟨p, 0, none⟩), .int .i64 2] U fun e w' => e = .returned (.int .i64 (k : Int)) ∧ RdL w' p rA shA ∧ Fr (fun k => k = p) U w') ∧
      (∀ U, RdL U p rA shA → Calls Try.prog 28 #[.pointer (some ⟨p, 0, none⟩), .int .i64 (k : Int)] U fun e w' => e = .returned (.string ⟨nm.toArray⟩) ∧ RdL w' p rB shB ∧ Fr (fun k => k = p) U w') ∧
      (∀ U, RdL U p rB shB → Calls Try.prog 27 #[.pointer (some ⟨p, 0, none⟩), .int .i64 4] U fun e w' => e = .returned (.int .i64 (z : Int)) ∧ RdL w' p r3 sh3 ∧ Fr (fun k => k = p) U w') ∧ Got b r i t l nm z r3 sh3 := by
  by_cases h2 : 2 ≤ r.length
  · have n2 := fun U hU => numL_ok p r 2 h2 (by decide) (by omega) U hU
    by_cases hk : le (r.take 2) ≤ (r.drop 2).length
    · have rk := fun U hU => rawL_ok p (r.drop 2) (le (r.take 2)) hk (by rw [List.length_drop]; omega) U hU
      have hnl : ((r.drop 2).take (le (r.take 2))).length = le (r.take 2) := by rw [List.length_take]; omega
      have hdl : (r.drop 2).length = r.length - 2 := List.length_drop
      have hdd : ((r.drop 2).drop (le (r.take 2))).length = r.length - 2 - le (r.take 2) := by rw [List.length_drop, List.length_drop]
      by_cases h4 : 4 ≤ ((r.drop 2).drop (le (r.take 2))).length
      · have n4 := fun U hU => numL_ok p ((r.drop 2).drop (le (r.take 2))) 4 h4 (by decide) (by rw [hdd]; omega) U hU
        have hz := le_small (((r.drop 2).drop (le (r.take 2))).take 4) (by rw [List.length_take]; omega)
        refine ⟨_, _, _, _, _, _, _, _, _, n2, rk, n4, ⟨⟨by omega, hz⟩, fun hno => dec_step hi hst ?_, fun h1 h2' => .inr ⟨rfl, ?_⟩⟩⟩
        · unfold st1
          rw [if_neg (by omega)]
          rcases hno with h | h
          · rw [if_pos (.inr (by omega))]
          · by_cases h5 : 1024 < le (r.take 2)
            · rw [if_pos (.inr h5)]
            · rw [if_neg (by omega), if_pos h]
        · rw [stN_next hst]
          unfold st1
          rw [if_neg (by omega), if_neg (by omega), if_neg (by omega)]
      · have n4 := fun U hU => numL_bad p ((r.drop 2).drop (le (r.take 2))) false 4 (.inr (by omega)) U hU
        have hno : decR b = none := dec_step hi hst (by unfold st1; rw [if_neg (by omega), if_pos (.inl (by omega))])
        exact ⟨_, _, _, _, _, _, _, _, _, n2, rk, n4, ⟨⟨by omega, by decide⟩, fun _ => hno, fun _ _ => .inl ⟨rfl, hno⟩⟩⟩
    · have hdl : (r.drop 2).length = r.length - 2 := List.length_drop
      have rk := fun U hU => rawL_bad p (r.drop 2) false (le (r.take 2)) (.inr (by omega)) U hU
      have n4 := fun U hU => numL_bad p (r.drop 2) true 4 (.inl rfl) U hU
      have hno : decR b = none := dec_step hi hst (by unfold st1; rw [if_neg (by omega), if_pos (.inl (by omega))])
      exact ⟨_, _, _, _, _, _, _, _, _, n2, rk, n4, ⟨⟨by simp, by decide⟩, fun _ => hno, fun _ _ => .inl ⟨rfl, hno⟩⟩⟩
  · have n2 := fun U hU => numL_bad p r false 2 (.inr (by omega)) U hU
    have rk := fun U hU => rawL_bad p r true 0 (.inl rfl) U hU
    have n4 := fun U hU => numL_bad p r true 4 (.inl rfl) U hU
    have hno : decR b = none := dec_step hi hst (by unfold st1; rw [if_pos (by omega)])
    exact ⟨_, _, _, _, _, _, _, _, _, n2, rk, n4, ⟨⟨by simp, by decide⟩, fun _ => hno, fun _ _ => .inl ⟨rfl, hno⟩⟩⟩

set_option maxHeartbeats 8000000 in
set_option maxRecDepth 100000 in
theorem decode_big (b : List UInt8) (hb : b.length ≤ 1000 ∨ (b.length ≤ 4000000 ∧ le (b.take 4) ≤ 1024)) (w : World) :
    Calls Try.prog 17 #[.string ⟨b.toArray⟩] w fun e w' => (∃ v, (match decR b with | none => v = .slice none 0 0 ∧ e = .returned (.tuple #[v, .int .i64 6]) | some l => w'.ownsRow w.heap.size 48 2 v l.length (itemsV l) ∧ e = .returned (.tuple #[v, .int .i64 0]))) ∧ Fr (fun _ => False) w w' := by
  obtain ⟨D, hD⟩ : ∃ D, decR b = D := ⟨_, rfl⟩
  rw [hD]
  have HD := Lib.hid hD
  clear hD
  obtain ⟨i0, hi0', hz0, hz1, hz2⟩ := info_parts infoIt
  have Hi := Lib.hid hi0'
  have Hz0 := Lib.hid hz0
  have Hz1 := Lib.hid hz1
  have Hz2 := Lib.hid hz2
  clear hi0' hz0 hz1 hz2
  have hbk := heap_alloc_new w (.cells #[.string ⟨b.toArray⟩, .bool false] 73)
  have hf0 : Fr (fun _ => False) w (w.alloc (.cells #[.string ⟨b.toArray⟩, .bool false] 73)) := (Fr.refl _ w).alloc _
  have hst : ∃ W p, w.alloc (.cells #[.string ⟨b.toArray⟩, .bool false] 73) = W ∧ w.heap.size = p ∧ RdL W p b false ∧ Fr (fun _ => False) w W := ⟨_, _, rfl, rfl, hbk, hf0⟩
  obtain ⟨W, p, hW, hp, hR0, hF0⟩ := hst
  have hn4 : ∃ (N : Nat) (sh : Bool) (r : List UInt8), Hid (∀ U, RdL U p b false → Calls Try.prog 27 #[.pointer (some ⟨p, 0, none⟩), .int .i64 4] U fun e w' => e = .returned (.int .i64 (N : Int)) ∧ RdL w' p r sh ∧ Fr (fun k => k = p) U w') ∧ Hid ((sh = true ∧ decR b = none) ∨ (sh = false ∧ N = le (b.take 4) ∧ 4 ≤ b.length ∧ stN b 0 = some (r, 0, []))) ∧ N < 4294967296 := by
    by_cases h4 : 4 ≤ b.length
    · exact ⟨le (b.take 4), false, b.drop 4, fun U hU => numL_ok p b 4 h4 (by decide) (by omega) U hU, .inr ⟨rfl, rfl, h4, rfl⟩, le_small _ (by rw [List.length_take]; omega)⟩
    · exact ⟨0, true, b, fun U hU => numL_bad p b false 4 (.inr (by omega)) U hU, .inl ⟨rfl, by unfold decR; rw [if_pos (by omega)]⟩, by decide⟩
  obtain ⟨N, sh, r, HN4, HS4, hN5⟩ := hn4
  have HR0 := Lib.hid hR0
  have HF0 := Lib.hid hF0
  have Hp := Lib.hid hp
  clear hbk hf0 hR0 hF0
  go_enter Try.func17, Try.ntmps17
  go_upto_region 2 with fail
  clear hW hp
  go_upto_region 5 with (go_at_call 27; refine (HN4.out W HR0.out).mono ?_; rintro e w1 ⟨rfl, h1, h2⟩; have R1 := Lib.hid h1; have F1 := Lib.hid (HF0.out.trans h2 (fun k hk => .inr (by rw [hk, Hp.out]; exact Nat.le_refl _))); clear h1 h2)
  clear HN4 HR0 HF0
  go_wp2
  go_loopw [6, 7, 8, 9, 10] (fun v6 v7 v8 _ _ wr => ∃ (i : Nat) (sh : Bool) (r : List UInt8), i ≤ N ∧ v8 = .int .i64 (i : Int) ∧ Hid (RdL wr p r sh) ∧ Hid (Fr (fun _ => False) w wr) ∧ ((sh = true ∧ Hid (decR b = none)) ∨ (sh = false ∧ ∃ (t : Nat) (l : List (List UInt8 × Nat)), Hid (N = le (b.take 4) ∧ 4 ≤ b.length ∧ stN b i = some (r, t, l)) ∧ v7 = .int .i64 (t : Int) ∧ Hid (wr.ownsRow w.heap.size 48 2 v6 l.length (itemsV l))))) (fun _ _ v8 _ _ _ => N - (intOf v8).toNat)
  case atStart =>
    refine ⟨0, sh, r, Nat.zero_le _, rfl, R1, F1, ?_⟩
    rcases HS4.out with ⟨h1, h2⟩ | ⟨h1, h2, h3, h4⟩
    · exact .inl ⟨h1, h2⟩
    · exact .inr ⟨h1, 0, [], ⟨h2, h3, h4⟩, rfl, ⟨rfl, .inl ⟨rfl, rfl⟩⟩⟩
  case round =>
    clear R1 F1 HS4
    obtain ⟨i, sh, r, hi, rfl, KR, KF, KS⟩ := hrel
    have c1 : wr.cell? ⟨p, 1, none⟩ = some (.bool sh) := (cell_of KR.out 1).trans rfl
    have c0 : wr.cell? ⟨p, 0, none⟩ = some (.string ⟨r.toArray⟩) := (cell_of KR.out 0).trans rfl
    rcases KS with ⟨rfl, KD⟩ | ⟨rfl, t, l, KS, rfl, KW⟩
    · have hD : D = none := by rw [← HD.out]; exact KD.out
      subst hD
      by_cases hlt : i < N
      · have hI : (i : Int) < (N : Int) := by omega
        by_cases h10 : i ≤ 1024
        · have hI2 : (i : Int) ≤ 1024 := by omega
          go_wp2
          go_ret2
          first | exact ⟨⟨_, rfl, rfl⟩, KF.out⟩ | exact ⟨rfl, KF.out⟩ | exact KF.out
        · have hI2 : ¬ (i : Int) ≤ 1024 := by omega
          go_wp2
          go_ret2
          first | exact ⟨⟨_, rfl, rfl⟩, KF.out⟩ | exact ⟨rfl, KF.out⟩ | exact KF.out
      · have hI : ¬ (i : Int) < (N : Int) := by omega
        go_wp2
        go_ret2
        first | exact ⟨⟨_, rfl, rfl⟩, KF.out⟩ | exact ⟨rfl, KF.out⟩ | exact KF.out
    · have hln := stN_len KS.out.2.1 i KS.out.2.2
      by_cases hlt : i < N
      · have hI : (i : Int) < (N : Int) := by omega
        have hKN := KS.out.1
        have hI2 : (i : Int) ≤ 1024 := by omega
        obtain ⟨k, rA, shA, nm, rB, shB, z, r3, sh3, g1, g2, g3, hg⟩ := got_all (by omega) KS.out.2.2 (by rw [← KS.out.1]; exact hlt) p
        have ht := hln.2.2
        have hll := hln.2.1
        have hib : i ≤ 1024 := by omega
        have G1 := Lib.hid g1
        have G2 := Lib.hid g2
        have G3 := Lib.hid g3
        have HG := Lib.hid hg
        have HI := Lib.hid hi
        clear g1 g2 g3 hg hln hi hKN hb
        go_upto_region 9 with (first
          | (go_at_call 27; refine (G1.out wr KR.out).mono ?_; rintro e w2 ⟨rfl, h1, h2⟩; have R2 := Lib.hid h1; have F2 := Lib.hid h2; clear h1 h2)
          | (go_at_call 28; refine (G2.out w2 R2.out).mono ?_; rintro e w3 ⟨rfl, h1, h2⟩; have R3 := Lib.hid h1; have F3 := Lib.hid (F2.out.trans h2 (fun _ h => .inl h)); clear h1 h2))
        clear c0 c1
        go_upto_region 10 with (go_at_call 27; refine (G3.out w3 R3.out).mono ?_; rintro e w4 ⟨rfl, h1, h2⟩; have R4 := Lib.hid h1; have F4 := Lib.hid (F3.out.trans h2 (fun _ h => .inl h)); clear h1 h2)
        have hfr : Fr (fun _ => False) w (w4.alloc (.cells #[.string ⟨nm.toArray⟩, .int .i64 (z : Int)] 48)) := (KF.out.trans F4.out (fun k hk => .inr (by rw [hk, ← Hp.out]; exact Nat.le_refl _))).alloc _
        have hrow : (w4.alloc (.cells #[.string ⟨nm.toArray⟩, .int .i64 (z : Int)] 48)).ownsRow w.heap.size 48 2 u6 l.length (itemsV l) :=
          own_keep (own_keep KW.out F4.out (fun k hk e => by obtain ⟨cur, hc⟩ := own_ty KW.out hk; rw [e] at hc; exact ne_of_ty hc KR.out (by decide) rfl)) ((Fr.refl (fun _ => False) w4).alloc _) (fun _ _ x => x)
        have hrd : RdL (w4.alloc (.cells #[.string ⟨nm.toArray⟩, .int .i64 (z : Int)] 48)) p r3 sh3 := Rd.keep R4.out ((Fr.refl (fun _ => False) w4).alloc _) (fun x => x)
        have hxb := heap_alloc_new w4 (.cells #[.string ⟨nm.toArray⟩, .int .i64 (z : Int)] 48)
        obtain ⟨W5, hW5⟩ : ∃ W, w4.alloc (.cells #[.string ⟨nm.toArray⟩, .int .i64 (z : Int)] 48) = W := ⟨_, rfl⟩
        obtain ⟨xb, hxbe⟩ : ∃ x, w4.heap.size = x := ⟨_, rfl⟩
        rw [hW5] at hfr hrow hrd hxb
        rw [hxbe] at hxb
        rw [hW5, hxbe]
        obtain ⟨X, hX⟩ : ∃ X, (⟨nm.toArray⟩ : ByteArray) = X := ⟨_, rfl⟩
        have hXs : X.size = nm.length := by rw [← hX]; rfl
        rw [hX] at hxb ⊢
        have HX := Lib.hid hX
        have HFr := Lib.hid hfr
        have HRow := Lib.hid hrow
        have HRd := Lib.hid hrd
        have d0 : W5.cell? ⟨xb, 0, none⟩ = some (.string X) := (cell_of hxb 0).trans rfl
        have d1 : W5.cell? ⟨xb, 1, none⟩ = some (.int .i64 (z : Int)) := (cell_of hxb 1).trans rfl
        have hsm := HG.out.small
        have hxlt := lt_of_block hxb
        clear hW5 hxbe hX hfr hrow hrd hxb G1 G2 G3 R2 R3 R4 F2 F3 F4 KR KF KW
        obtain ⟨M, hM⟩ : ∃ m, nm.length = m := ⟨_, rfl⟩
        rw [hM] at hXs hsm
        have HM := Lib.hid hM
        clear hM
        have em : IntKind.i64.wrap (16777216 - (t : Int)) = 16777216 - (t : Int) := IntWalk.i64_in _ (by omega)
        have ea : IntKind.i64.wrap ((t : Int) + (z : Int)) = ((t + z : Nat) : Int) := by rw [IntWalk.i64_in _ (by omega)]; omega
        by_cases hbad : 1024 < M ∨ 16777216 < t + z
        · have hD : D = none := by rw [← HD.out]; exact HG.out.no (by rw [HM.out]; exact hbad)
          subst hD
          by_cases h1 : 1024 < M
          · have h1I : (1024 : Int) < (M : Int) := by omega
            clear hbad
            go_wp2
            go_ret2
            first | exact ⟨⟨_, rfl, rfl⟩, HFr.out⟩ | exact ⟨rfl, HFr.out⟩ | exact HFr.out
          · have h1I : ¬ (1024 : Int) < (M : Int) := by omega
            have h2I : 16777216 - (t : Int) < (z : Int) := by omega
            clear hbad
            go_wp2
            go_ret2
            first | exact ⟨⟨_, rfl, rfl⟩, HFr.out⟩ | exact ⟨rfl, HFr.out⟩ | exact HFr.out
        · have h1I : ¬ (1024 : Int) < (M : Int) := by omega
          have h2I : ¬ 16777216 - (t : Int) < (z : Int) := by omega
          have hy := HG.out.yes (by rw [HM.out]; omega) (by omega)
          have Hy := Lib.hid hy
          have HKS := Lib.hid KS.out
          rw [hll] at HRow
          obtain ⟨ad, cap, hv⟩ := own_any HRow.out
          subst hv
          clear hbad hy KS
          go_wp2_with (at_builtin; refine wpList_append_my _ rfl _ _ 39 rfl w.heap.size 48 i0 (.agg #[.string ByteArray.empty, .int .i64 0]) 2 24 Try.underlying39 Hi.out Hz0.out Hz1.out Hz2.out rfl (by decide) (.slice ad i cap) i _ (by rfl) (HRow.out.alloc _) ⟨_, 0, none⟩ 1 1 [.string X, .int .i64 (z : Int)] (by rfl) (by rfl) (World.news_of_block (cs := #[.string X, .int .i64 (z : Int)]) (t := 48) (fr := (0, 0)) (heap_alloc_new _ _)) (by simp [Value.oneCell']) (by omega) (by unfold maxLen; omega) (by omega) (by have := HFr.out.size; simp; omega) _ rfl ?_; intro g cap2 w6 hown hgrow hat hlt2 hsame; have IB := Lib.hid hown; have IR : Hid (RdL w6 p r3 sh3) := Lib.hid (Rd.keep HRd.out (((Fr.refl (fun k => (Value.slice ad i cap).ownBlock = some k) W5).alloc _).grown hgrow (fun k hk => .inl hk)) (fun e => by obtain ⟨cur, hc⟩ := own_ty HRow.out e; exact ne_of_ty hc HRd.out (by decide) rfl)); have IF : Hid (Fr (fun _ => False) w w6) := Lib.hid ((HFr.out.alloc _).grown hgrow (fun k hk => .inr (own_base HRow.out hk))); clear hown hgrow hat hlt2 hsame)
          go_roundw
          case rel =>
            refine ⟨i + 1, sh3, r3, hlt, by go_num, IR, IF, ?_⟩
            rcases Hy.out with ⟨h1, h2⟩ | ⟨h1, h2⟩
            · exact .inl ⟨h1, h2⟩
            · refine .inr ⟨h1, t + z, l ++ [(nm, z)], ⟨HKS.out.1, HKS.out.2.1, h2⟩, rfl, ?_⟩
              rw [itemsV_snoc, List.length_append, hll, HX.out]
              exact IB
          case measure => simp [intOf]; omega
      · obtain rfl : i = N := by omega
        have hI : ¬ (i : Int) < (i : Int) := by omega
        obtain ⟨hNe, hb4, hse⟩ := KS.out
        have hdec : decR b = if r = [] ∧ i ≤ 1024 then some l else none := by
          unfold decR
          rw [if_neg (by omega), ← hNe, hse]
        have hll := hln.2.1
        have hln1 := hln.1
        by_cases hre : r = []
        · subst hre
          have hi2 : i ≤ 1024 := by omega
          clear hb
          have hD : D = some l := by rw [← HD.out, hdec, if_pos ⟨rfl, hi2⟩]
          subst hD
          have hI2 : ¬ (1024 : Int) < (i : Int) := by omega
          clear hdec hNe hse hlt hi
          go_wp2
          go_ret2
          exact ⟨⟨u6, by have h := KW.out; rw [hll] at h; exact h, rfl⟩, KF.out⟩
        · have hD : D = none := by rw [← HD.out, hdec, if_neg (fun h => hre h.1)]
          subst hD
          have hne : (⟨r.toArray⟩ : ByteArray) ≠ ⟨#[]⟩ := fun h => hre (by have := congrArg (fun x => x.data.toList) h; simpa using this)
          clear hdec hNe hse hlt hi
          go_wp2
          go_ret2
          first | exact ⟨⟨_, rfl, rfl⟩, KF.out⟩ | exact ⟨rfl, KF.out⟩ | exact KF.out
theorem decode_is (b : List UInt8) (hb : b.length ≤ 1000) (w : World) :
    Calls Try.prog 17 #[.string ⟨b.toArray⟩] w fun e w' => (∃ v, (match decR b with | none => v = .slice none 0 0 ∧ e = .returned (.tuple #[v, .int .i64 6]) | some l => w'.ownsRow w.heap.size 48 2 v l.length (itemsV l) ∧ e = .returned (.tuple #[v, .int .i64 0]))) ∧ Fr (fun _ => False) w w' := decode_big b (.inl hb) w
end Go.Proofs.Ytlkiijojldnlbaa
