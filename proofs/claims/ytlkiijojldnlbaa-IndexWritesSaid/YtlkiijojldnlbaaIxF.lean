/- Layer 27 (index): IndexWrites. -/
import Derived.Test.YtlkiijojldnlbaaIxE
import Derived.Deep.DeepCutAuto
namespace Go.Proofs.Ytlkiijojldnlbaa
set_option linter.unusedVariables false
open Go.RowKit Go.My Go.Ix

theorem told_small (f : Nat → ByteArray × ByteArray) (n k : Nat) (h : k < (told f n).length) : ((told f n)[k]).1.length ≤ 40 ∧ ((told f n)[k]).2.length ≤ 200 := by
  simp only [told, List.getElem_map, List.getElem_range, List.length_take]
  omega
theorem enc_small (L : Ents) (hx : ∀ (k : Nat) (h : k < L.length), (L[k]).1.length ≤ 40) : ∀ i, i ≤ L.length → (encTo L i).length ≤ 4 + 46 * i
  | 0, _ => by rw [encTo_zero, lb_length]; omega
  | i + 1, h => by
    rw [encTo_succ L i (by omega), List.length_append, enc1_length]
    have := enc_small L hx i (by omega)
    have := hx i (by omega)
    omega
theorem allD_drop (L : Ents) (k : Nat) (hk : k < L.length) : (allD L L.length).drop (sumN L k) = L[k].2 ++ (L.drop (k + 1)).flatMap (·.2) := by
  have e : allD L L.length = allD L k ++ (L.drop k).flatMap (·.2) := by
    unfold allD
    rw [List.take_length, ← List.flatMap_append, List.take_append_drop]
  rw [e, List.drop_left' (allD_length L k (by omega)), List.drop_eq_getElem_cons hk, List.flatMap_cons]
theorem partE_back (L : Ents) : partE (itm L) (allD L L.length) L.length = L := by
  apply List.ext_getElem
  · simp [partE]
  · intro k h1 h2
    simp only [partE, List.getElem_map, List.getElem_range]
    have hg : (itm L).getD k ([], 0) = (L[k].1, L[k].2.length) := by simp [itm, List.getD, List.getElem?_eq_getElem h2]
    rw [hg, sumS_itm L k (by omega), allD_drop L k h2]
    simp
theorem itm_take (L : Ents) (i : Nat) (h : i < L.length) : (itm L).take (i + 1) = (itm L).take i ++ [(L[i].1, L[i].2.length)] := by
  have : i < (itm L).length := by simpa [itm] using h
  rw [List.take_succ_eq_append_getElem this]
  simp [itm]
theorem infoRi : (Try.prog.info? 47).map (fun i => (i.zero, i.size, i.bytes)) = some (some (.agg #[.string ByteArray.empty, .int .i64 0]), 2, 24) := by kernel_rfl

set_option maxHeartbeats 8000000 in
set_option maxRecDepth 100000 in
theorem indexWrites_walk (f : Nat → ByteArray × ByteArray) (hf : ∀ i, (f i).1.size ≤ maxLen ∧ (f i).2.size ≤ maxLen) (ao : Option Addr) (len cap : Nat) (hlen : len ≤ 9223372036854775807) (cut : Int) (hcut : 0 ≤ cut ∧ cut < 65536) (w : World)
    (hc : ∀ i, i < len → ∃ B off, ao = some ⟨B, off, none⟩ ∧ EnAt w B (off + i * 2) (f i)) :
    Calls Try.prog 7 #[.slice ao len cap, .int .u16 cut] w fun e w' => e = .returned (.bool true) ∧ Fr (fun _ => False) w w' := by
  obtain ⟨i0, hi, hz0, hz1, hz2⟩ := info_parts infoRi
  have Hi := Lib.hid hi
  have Hz0 := Lib.hid hz0
  have Hz1 := Lib.hid hz1
  have Hz2 := Lib.hid hz2
  clear hi hz0 hz1 hz2
  obtain ⟨hcut0, hcut1⟩ := hcut
  obtain ⟨n, hn⟩ : ∃ n, min len 12 = n := ⟨_, rfl⟩
  have hn12 : n ≤ 12 := by omega
  have hnI : (n : Int) ≤ 12 := by omega
  obtain ⟨L, hL⟩ : ∃ L, told f n = L := ⟨_, rfl⟩
  have hLn : L.length = n := by rw [← hL, told_length]
  have hx40 : ∀ (k : Nat) (h : k < L.length), (L[k]).1.length ≤ 40 ∧ (L[k]).2.length ≤ 200 := by subst hL; exact told_small f n
  have hSm : Small L := fun k h => ⟨by have := (hx40 k h).1; omega, (hx40 k h).2⟩
  have hGd : Gd L := ⟨fun k h => by have := (hx40 k h).1; omega, by omega⟩
  have htd := fun U hU => told_is f hf ao len cap hlen n hn.symm U hU
  rw [hL] at htd
  have hel : (encL L).length ≤ 556 := by
    have := enc_small L (fun k h => (hx40 k h).1) L.length (Nat.le_refl _)
    rw [encTo_all] at this
    omega
  have hel4 : 4 ≤ (encL L).length := by unfold encL; rw [List.length_append, lb_length]; omega
  have hdr := decR_enc L hSm hGd
  have hitn : (itm L).length = n := by rw [← hLn]; simp [itm]
  have hitx : ∀ (k : Nat) (h : k < (itm L).length), ((itm L)[k]).2 ≤ 1000000 := by
    intro k h
    have hk : k < L.length := by simpa [itm] using h
    simp only [itm, List.getElem_map]
    have := (hx40 k hk).2
    omega
  have hsn : sumS (itm L) n = (allD L n).length := by rw [← hLn, sumS_itm L _ (Nat.le_refl _), allD_length L _ (Nat.le_refl _)]
  have hal : (allD L n).length ≤ 2400 := by
    have := sumN_le L hSm n (by omega)
    rw [allD_length L n (by omega)]
    omega
  have hpb : partE (itm L) (allD L n) n = L := by rw [← hLn]; exact partE_back L
  have Htd := Lib.hid htd
  have HLn := Lib.hid hLn
  have Hx := Lib.hid hx40
  have HSm := Lib.hid hSm
  have HGd := Lib.hid hGd
  have Hel := Lib.hid hel
  have Hel4 := Lib.hid hel4
  have Hdr := Lib.hid hdr
  have Hitn := Lib.hid hitn
  have Hitx := Lib.hid hitx
  have Hsn := Lib.hid hsn
  have Hal := Lib.hid hal
  have Hpb := Lib.hid hpb
  have Hc := Lib.hid hc
  clear htd hLn hx40 hSm hGd hel hel4 hdr hitn hitx hsn hal hpb hc hf hL hn
  go_enter Try.func7, Try.ntmps7
  go_upto_region 3 with (go_at_call 16; refine (speaks27 w).mono ?_; rintro e w1 ⟨rfl, h⟩; have F1 := Lib.hid h; clear h)
  go_upto_region 4 with (go_at_call 20; refine (Htd.out w1 (fun i hi => by obtain ⟨B, off, h1, h2⟩ := Hc.out i hi; exact ⟨B, off, h1, ⟨F1.out.cell_ h2.c0 (fun x => x), F1.out.cell_ h2.c1 (fun x => x)⟩⟩)).mono ?_; rintro e w2 ⟨v5, rfl, h1, h2⟩; have R2 := Lib.hid h1; have F2 := Lib.hid (F1.out.trans h2 (fun _ h => .inl h)); clear h1 h2)
  clear Htd Hc F1
  obtain ⟨a5, p5, hv5⟩ := own_any R2.out
  subst hv5
  obtain ⟨B0, hB0⟩ : ∃ B, w1.heap.size = B := ⟨_, rfl⟩
  rw [hB0] at R2
  clear hB0
  obtain ⟨B2, hB2⟩ : ∃ B, w2.heap.size = B := ⟨_, rfl⟩
  have HB2 := Lib.hid hB2
  clear hB2
  go_upto_region 7 with fail
  go_loopw [6, 7, 8] (fun v6 v7 v8 wr => ∃ (i : Nat) (A : ByteArray), i ≤ n ∧ v8 = .int .i64 (i : Int) ∧ v7 = .string A ∧ A.size ≤ 3000 ∧ Hid (A = ⟨(allD L i).toArray⟩) ∧ Hid (wr.ownsRow B2 47 2 v6 i (itemsV ((itm L).take i))) ∧ Hid (Fr (fun k => B2 ≤ k) w2 wr)) (fun _ _ v8 _ => n - (intOf v8).toNat)
  case atStart => exact ⟨0, ⟨#[]⟩, Nat.zero_le _, rfl, rfl, by decide, Lib.hid rfl, ⟨rfl, .inl ⟨rfl, rfl⟩⟩, Fr.refl _ _⟩
  case round =>
    obtain ⟨i, A, hi, rfl, rfl, hA, KA, KW, KF⟩ := hrel
    obtain ⟨a6, p6, hv6⟩ := own_any KW.out
    subst hv6
    have hB2 := HB2.out
    have r1 := own_keep R2.out KF.out (fun k hk e => by obtain ⟨cur, hc⟩ := own_ty R2.out hk; have := lt_of_block hc; have := HB2.out; have : B2 ≤ k := e; omega)
    by_cases hlt : i < n
    · have hI : (i : Int) < (n : Int) := by omega
      have hi0 : (0 : Int) ≤ (i : Int) := by omega
      have hkL : i < L.length := by rw [HLn.out]; exact hlt
      obtain ⟨g, c, e1⟩ := own_slice r1 (by omega)
      injection e1 with e1 _ e3
      subst e1
      clear e3
      have r2 := r1
      rw [← HLn.out] at r2
      obtain ⟨c0, c1⟩ := ent_cell r2 i hkL
      have hx := Hx.out i hkL
      have hts := allD_succ L i hkL
      have hit := itm_take L i hkL
      have hal := allD_length L (i + 1) (by omega)
      have hsl := sumN_le L HSm.out (i + 1) (by omega)
      obtain ⟨X, hX⟩ : ∃ X, (⟨(L[i]'hkL).1.toArray⟩ : ByteArray) = X := ⟨_, rfl⟩
      obtain ⟨Y, hY⟩ : ∃ Y, (⟨(L[i]'hkL).2.toArray⟩ : ByteArray) = Y := ⟨_, rfl⟩
      have zY : (L[i]'hkL).2.length = Y.size := by rw [← hY]; rfl
      rw [hX] at c0
      rw [hY] at c1
      rw [zY] at hit hx
      obtain ⟨A1, hA1⟩ : ∃ A1, A ++ Y = A1 := ⟨_, rfl⟩
      have ad := fun U => run_string_add_sum (P := Try.prog) U A Y (by omega)
      rw [hA1] at ad
      have hA2 : A1 = ⟨(allD L (i + 1)).toArray⟩ := by
        rw [← hA1, KA.out, hts, ← hY]
        apply ByteArray.ext
        apply Array.ext'
        simp
      have hA3 : A1.size ≤ 3000 := by
        rw [hA2]
        show (allD L (i + 1)).toArray.size ≤ _
        simp
        omega
      have HA2 := Lib.hid hA2
      have HX := Lib.hid hX
      have Hit := Lib.hid hit
      have q0 : ∀ u : InW (Fr NoF wr.drew), u.to.cell? ⟨g, i * 2, none⟩ = some (.string X) := fun u => u.ok.cell_ (w := wr.drew) c0 (fun x => x)
      have q1 : ∀ u : InW (Fr NoF wr.drew), u.to.cell? ⟨g, i * 2 + 1, none⟩ = some (.string Y) := fun u => u.ok.cell_ (w := wr.drew) c1 (fun x => x)
      have HC1 := Lib.hid c1
      have hyI : (Y.size : Int) ≤ 200 := by omega
      clear r1 r2 c0 c1 hts hit hal hsl hX hY zY hA1 hA2 hx
      go_upto_region 9 with fail
      refine wp_region_mix 14 [(0, true), (1, true), (2, true), (3, true), (4, true), (5, true), (6, true), (7, true), (8, true), (9, true), (10, true), (11, true), (12, true), (13, false)] (by kernel_rfl) (by kernel_rfl) ?_
      simp only [planOps, List.getElem?_cons_zero, List.getElem?_cons_succ, List.drop_succ_cons, List.drop_zero]
      repeat (first | (refine mix_skip (by rfl) ?_; (simp only [Act.put, List.setIfInBounds_toArray, List.set_cons_zero, List.set_cons_succ])) | (refine mix_step (by rfl) ?_; apply Exists.intro; refine ⟨fun u => ?_, ?_⟩; (focus (unfold quietF; go_simp; first | done | exact ⟨rfl, rfl⟩)); (simp only [Act.put, List.setIfInBounds_toArray, List.set_cons_zero, List.set_cons_succ])))
      refine mix_loud (by rfl) (fun w1 hf1 K hK => ?_)
      go_simp
      refine hK.out _ _ ((Fr.refl _ _).alloc _) ?_
      clear hK K
      refine mix_nil (fun w4 hf2 => ?_)
      have hblk := hf2.keep (heap_alloc_new w1 (.cells #[.string X, .int .i64 (Y.size : Int)] 47)) (fun x => x)
      have hfA : Fr NoF wr w4 := (((Fr.refl _ wr).drew.trans hf1 (fun _ h => .inl h)).alloc _).trans hf2 (fun _ h => .inl h)
      have hrow := own_keep KW.out hfA (fun _ _ x => x)
      have d1 := hfA.cell_ HC1.out (fun x => x)
      have hsz : B2 ≤ w4.heap.size := by have := KF.out.size; have := hfA.size; omega
      have hgt : g < B2 := by obtain ⟨cur, hc⟩ := own_ty (g := g) R2.out rfl; have := lt_of_block hc; omega
      generalize w1.heap.size = nb at *
      have HFA := Lib.hid (KF.out.trans hfA (fun _ h => h.elim))
      have HRow := Lib.hid hrow
      have HBlk := Lib.hid hblk
      have Hsz := Lib.hid hsz
      have Hgt := Lib.hid hgt
      clear hf1 hf2 hblk hfA hrow hsz q0 q1 KW KF HC1 hgt hB2
      go_wp2_with (at_builtin; refine wpList_append_my _ rfl _ _ 43 rfl B2 47 i0 (.agg #[.string ByteArray.empty, .int .i64 0]) 2 24 Try.underlying43 Hi.out Hz0.out Hz1.out Hz2.out rfl (by decide) (.slice a6 i p6) i _ (by rfl) HRow.out ⟨nb, 0, none⟩ 1 1 [.string X, .int .i64 (Y.size : Int)] (by rfl) (by rfl) (World.news_of_block (cs := #[.string X, .int .i64 (Y.size : Int)]) (t := 47) (fr := (0, 0)) HBlk.out) (by simp [Value.oneCell']) (by omega) (by unfold maxLen; omega) (by omega) Hsz.out _ rfl ?_; intro g6 cap2 w6 hown hgrow hat hlt2 hsame; have IB := Lib.hid hown; have IF : Hid (Fr (fun k => B2 ≤ k) w2 w6) := Lib.hid (HFA.out.grown hgrow (fun k hk => .inl (own_base HRow.out hk))); have d2 : w6.cell? ⟨g, i * 2 + 1, none⟩ = some (.string Y) := ((Fr.refl (fun k => B2 ≤ k) w4).grown hgrow (fun k hk => .inl (own_base HRow.out hk))).cell_ d1 (by have := Hgt.out; show ¬ B2 ≤ g; omega); clear hown hgrow hat hlt2 hsame d1)
      go_roundw
      case rel =>
        refine ⟨i + 1, A1, hlt, by go_num, rfl, hA3, HA2, ?_, IF⟩
        rw [Hit.out, itemsV_snoc, HX.out]
        exact IB
      case measure => simp [intOf]; omega
    · obtain rfl : i = n := by omega
      clear hlt hi
      have hti : (itm L).take i = itm L := List.take_of_length_le (by rw [Hitn.out]; exact Nat.le_refl _)
      rw [hti] at KW
      clear hti
      have R3 := Lib.hid r1
      clear r1 R2 hB2
      have F3 := Lib.hid (F2.out.trans KF.out (fun k hk => .inr (by have := F2.out.size; have := HB2.out; have : B2 ≤ k := hk; omega)))
      clear F2 KF HB2
      obtain ⟨S, hS⟩ : ∃ S : ByteArray, (⟨(encL L).toArray⟩ : ByteArray) = S := ⟨_, rfl⟩
      have hen := fun U (ho : U.ownsRow B0 54 2 (.slice a5 i p5) i (entsV L)) => encode_is L i HLn.out HSm.out HGd.out B0 _ U ho
      have hde := fun U => decode_is (encL L) (by have := Hel.out; omega) U
      have hri := fun U (ho : U.ownsRow B2 47 2 (.slice a6 i p6) i (itemsV (itm L))) => refIndex_is L i HLn.out (by omega) HSm.out B2 _ U ho
      have htx := fun U (ho : U.ownsRow B0 54 2 (.slice a5 i p5) i (entsV L)) => text_is L i HLn.out (by omega) HSm.out B0 _ U ho
      have hto := fun Bx v U ho => total_is (itm L) i Hitn.out (by omega) Hitx.out Bx v U ho
      have hp1 := fun Bx v U ho => part_is (itm L) (allD L i) i Hitn.out (by omega) (by have := Hal.out; omega) Hitx.out Bx v U ho
      have hp2 := fun Bx v U ho => part_is (itm L) (allD L i ++ [120]) i Hitn.out (by omega) (by have := Hal.out; simp; omega) Hitx.out Bx v U ho
      have hp3 := fun Bx v U ho => part_is (itm L) ((allD L i).drop 1) i Hitn.out (by omega) (by have := Hal.out; simp; omega) Hitx.out Bx v U ho
      have hzA : A.size = (allD L i).length := by rw [KA.out]; show (allD L i).toArray.size = _; simp
      rw [Hsn.out, ← hzA] at hto
      rw [Hdr.out] at hde
      dsimp only at hde
      rw [Hitn.out] at hde
      rw [← KA.out] at htx hp1
      rw [hS] at hen hde hri
      have hzS : S.size = (encL L).length := by rw [← hS]; show (encL L).toArray.size = _; simp
      have hAX : A ++ ⟨#[120]⟩ = ⟨(allD L i ++ [120]).toArray⟩ := by rw [KA.out]; apply ByteArray.ext; apply Array.ext'; simp
      obtain ⟨AX, hAX2⟩ : ∃ AX, A ++ ⟨#[120]⟩ = AX := ⟨_, rfl⟩
      rw [← hAX, hAX2] at hp2
      have ad1 := fun U => run_string_add_sum (P := Try.prog) U A ⟨#[120]⟩ (by have : (⟨#[120]⟩ : ByteArray).size = 1 := rfl; omega)
      rw [hAX2] at ad1
      have hA1 : A.extract 1 A.size = ⟨((allD L i).drop 1).toArray⟩ := by rw [KA.out]; exact ext_drop _ _
      obtain ⟨A1, hA12⟩ : ∃ A1, A.extract 1 A.size = A1 := ⟨_, rfl⟩
      rw [← hA1, hA12] at hp3
      have hSX : S ++ ⟨#[0]⟩ = ⟨(encL L ++ [0]).toArray⟩ := by rw [← hS]; apply ByteArray.ext; apply Array.ext'; simp
      obtain ⟨SX, hSX2⟩ : ∃ SX, S ++ ⟨#[0]⟩ = SX := ⟨_, rfl⟩
      have had2 := fun U => run_string_add_sum (P := Try.prog) U S ⟨#[0]⟩ (by have : (⟨#[0]⟩ : ByteArray).size = 1 := rfl; have := Hel.out; omega)
      rw [hSX2] at had2
      have hde2 := fun U => decode_is (encL L ++ [0]) (by have := Hel.out; simp; omega) U
      rw [decR_more Hdr.out [0] (by simp), ← hSX, hSX2] at hde2
      dsimp only at hde2
      obtain ⟨z, hz⟩ : ∃ z, S.size = z := ⟨_, rfl⟩
      have hzp : 0 < z := by have := Hel4.out; omega
      have hzb : z ≤ 556 := by have := Hel.out; omega
      have hzI : (0 : Int) < (z : Int) := by omega
      have hzI2 : (z : Int) ≤ 556 := by omega
      obtain ⟨k, hk⟩ : ∃ k : Nat, cut % (z : Int) = (k : Int) := ⟨(cut % (z : Int)).toNat, by have := Int.emod_nonneg cut (b := (z : Int)) (by omega); omega⟩
      have hkt : cut.tmod (z : Int) = (k : Int) := by rw [Int.tmod_eq_emod_of_nonneg hcut0]; exact hk
      have hkz : k < z := by have := Int.emod_lt_of_pos cut hzI; omega
      have hkI : (k : Int) ≤ (S.size : Int) := by omega
      have hk0 : (0 : Int) ≤ (k : Int) := by omega
      have hSk : S.extract 0 k = ⟨((encL L).take k).toArray⟩ := by rw [← hS]; exact ext_take _ _
      obtain ⟨SK, hSK⟩ : ∃ SK, S.extract 0 k = SK := ⟨_, rfl⟩
      have hde3 := fun U => decode_is ((encL L).take k) (by have := Hel.out; rw [List.length_take]; omega) U
      rw [decR_less Hdr.out k (by omega), ← hSk, hSK] at hde3
      dsimp only at hde3
      have hq1 : ∀ (Bx : Nat) (v : Value) (U : World), U.ownsRow Bx 48 2 v i (itemsV (itm L)) → Calls Try.prog 24 #[v, .string A] U fun e w' => (∃ vb, e = .returned (.tuple #[vb, .bool true]) ∧ w'.ownsRow U.heap.size 54 2 vb i (entsV L)) ∧ Fr NoF U w' :=
        fun Bx v U ho => (hp1 Bx v U ho).mono fun e w' h => ⟨by have h1 := h.1 Hsn.out; rw [Hpb.out] at h1; exact h1, h.2.2⟩
      have hq2 : ∀ (Bx : Nat) (v : Value) (U : World), U.ownsRow Bx 48 2 v i (itemsV (itm L)) → Calls Try.prog 24 #[v, .string AX] U fun e w' => e = .returned (.tuple #[.slice none 0 0, .bool false]) ∧ Fr NoF U w' :=
        fun Bx v U ho => (hp2 Bx v U ho).mono fun e w' h => ⟨h.2.1 (by have := Hsn.out; simp; omega), h.2.2⟩
      have hq3 : 0 < A.size → ∀ (Bx : Nat) (v : Value) (U : World), U.ownsRow Bx 48 2 v i (itemsV (itm L)) → Calls Try.prog 24 #[v, .string A1] U fun e w' => e = .returned (.tuple #[.slice none 0 0, .bool false]) ∧ Fr NoF U w' :=
        fun h0 Bx v U ho => (hp3 Bx v U ho).mono fun e w' h => ⟨h.2.1 (by have := Hsn.out; simp; omega), h.2.2⟩
      have HEn := Lib.hid hen
      have HDe := Lib.hid hde
      have HRi := Lib.hid hri
      have HTx := Lib.hid htx
      have HTo := Lib.hid hto
      have HP1 := Lib.hid hq1
      have HP2 := Lib.hid hq2
      have HP3 := Lib.hid hq3
      have HD2 := Lib.hid hde2
      have HD3 := Lib.hid hde3
      have HA12 := Lib.hid hA12
      have HSK := Lib.hid hSK
      have Hk := Lib.hid hk
      have Hkt := Lib.hid hkt
      have Hz := Lib.hid hz
      have Had1 := Lib.hid ad1
      have Had2 := Lib.hid had2
      clear hS hen hde hri htx hto hp1 hp2 hp3 hzA hzS hAX hAX2 hA1 hA12 hSX hSX2 hde2 hde3 hSk hSK hk hkt hq1 hq2 hq3 hz ad1 had2 HGd Hel Hel4 Hdr Hitx Hsn Hal Hpb HSm KA Hi Hz0 Hz1 Hz2
      go_upto_region 12 with (go_at_call 19; refine (HEn.out wr R3.out).mono ?_; rintro e w4 ⟨rfl, h⟩; have R4 := Lib.hid (own_keep R3.out h (fun _ _ x => x)); have K4 := Lib.hid (own_keep KW.out h (fun _ _ x => x)); have F4 := Lib.hid (F3.out.trans h (fun _ h => .inl h)); clear h)
      clear HEn R3 KW F3
      go_upto_region 13 with (go_at_call 17; refine (HDe.out w4).mono ?_; rintro e w5 ⟨⟨v11, h1, rfl⟩, h⟩; have I5 := Lib.hid h1; have R5 := Lib.hid (own_keep R4.out h (fun _ _ x => x)); have K5 := Lib.hid (own_keep K4.out h (fun _ _ x => x)); have F5 := Lib.hid (F4.out.trans h (fun _ h => .inl h)); clear h h1)
      clear HDe R4 K4 F4
      obtain ⟨B5, hB5⟩ : ∃ B, w4.heap.size = B := ⟨_, rfl⟩
      rw [hB5] at I5
      clear hB5
      obtain ⟨a11, p11, hv11⟩ := own_any I5.out
      subst hv11
      go_upto_region 15 with (first
        | (go_at_call 21; refine (HRi.out w5 K5.out).mono ?_; rintro e w6 ⟨rfl, h⟩; have I6 := Lib.hid (own_keep I5.out h (fun _ _ x => x)); have R6 := Lib.hid (own_keep R5.out h (fun _ _ x => x)); have K6 := Lib.hid (own_keep K5.out h (fun _ _ x => x)); have F6 := Lib.hid (F5.out.trans h (fun _ h => .inl h)); clear h)
        | (go_at_call 22; refine (HTx.out w6 R6.out).mono ?_; rintro e w7 ⟨rfl, h⟩; have I7 := Lib.hid (own_keep I6.out h (fun _ _ x => x)); have R7 := Lib.hid (own_keep R6.out h (fun _ _ x => x)); have K7 := Lib.hid (own_keep K6.out h (fun _ _ x => x)); have F7 := Lib.hid (F6.out.trans h (fun _ h => .inl h)); clear h)
        | (go_at_call 23; refine (HTo.out B5 _ w7 I7.out).mono ?_; rintro e w8 ⟨rfl, h⟩; have I8 := Lib.hid (own_keep I7.out h (fun _ _ x => x)); have R8 := Lib.hid (own_keep R7.out h (fun _ _ x => x)); have K8 := Lib.hid (own_keep K7.out h (fun _ _ x => x)); have F8 := Lib.hid (F7.out.trans h (fun _ h => .inl h)); clear h))
      clear HRi HTx HTo I5 R5 K5 F5 I6 R6 K6 F6 I7 R7 K7 F7
      go_upto_region 16 with (go_at_call 24; refine (HP1.out B5 _ w8 I8.out).mono ?_; rintro e w9 ⟨⟨v13, rfl, h1⟩, h⟩; have Q9 := Lib.hid h1; have I9 := Lib.hid (own_keep I8.out h (fun _ _ x => x)); have R9 := Lib.hid (own_keep R8.out h (fun _ _ x => x)); have K9 := Lib.hid (own_keep K8.out h (fun _ _ x => x)); have F9 := Lib.hid (F8.out.trans h (fun _ h => .inl h)); clear h h1)
      clear HP1 I8 R8 K8 F8
      obtain ⟨B9, hB9⟩ : ∃ B, w8.heap.size = B := ⟨_, rfl⟩
      rw [hB9] at Q9
      clear hB9
      obtain ⟨a13, p13, hv13⟩ := own_any Q9.out
      subst hv13
      go_upto_region 19 with fail
      go_loopw [15] (fun v15 wl => ∃ j : Nat, j ≤ i ∧ v15 = .int .i64 (j : Int) ∧ Hid (Fr NoF w9 wl)) (fun v15 _ => i - (intOf v15).toNat)
      case atStart => exact ⟨0, Nat.zero_le _, rfl, Fr.refl _ _⟩
      case round =>
        obtain ⟨wl, hwl⟩ : ∃ wl : World, wl = wr := ⟨_, rfl⟩
        obtain ⟨j, hj, rfl, JF⟩ := hrel
        by_cases hjt : j < i
        · have hI : (j : Int) < (i : Int) := by omega
          have hj0 : (0 : Int) ≤ (j : Int) := by omega
          have hjL : j < L.length := by rw [HLn.out]; exact hjt
          have hjI : j < (itm L).length := by rw [Hitn.out]; exact hjt
          have r1 := own_keep R9.out JF.out (fun _ _ x => x)
          have r2 := own_keep Q9.out JF.out (fun _ _ x => x)
          have r3 := own_keep I9.out JF.out (fun _ _ x => x)
          have r4 := own_keep K9.out JF.out (fun _ _ x => x)
          obtain ⟨g1, y1, e1⟩ := own_slice r1 (by omega)
          obtain ⟨g2, y2, e2⟩ := own_slice r2 (by omega)
          obtain ⟨g3, y3, e3⟩ := own_slice r3 (by omega)
          obtain ⟨g4, y4, e4⟩ := own_slice r4 (by omega)
          injection e1 with e1 _ _
          injection e2 with e2 _ _
          injection e3 with e3 _ _
          injection e4 with e4 _ _
          subst e1 e2 e3 e4
          have rl : i = L.length := HLn.out.symm
          have ri : i = (itm L).length := Hitn.out.symm
          have d1 := ent_cell (by rw [← rl]; exact r1) j hjL
          have d2 := ent_cell (by rw [← rl]; exact r2) j hjL
          have d3 := item_cell (by rw [← ri]; exact r3) j hjI
          have d4 := item_cell (T := 47) (by rw [← ri]; exact r4) j hjI
          clear r1 r2 r3 r4 rl ri
          obtain ⟨c0, c1⟩ := d1
          obtain ⟨c2, c3⟩ := d2
          obtain ⟨c4, c5⟩ := d3
          obtain ⟨c6, c7⟩ := d4
          generalize (⟨(L[j]'hjL).1.toArray⟩ : ByteArray) = X at *
          generalize (⟨(L[j]'hjL).2.toArray⟩ : ByteArray) = Y at *
          generalize (⟨((itm L)[j]'hjI).1.toArray⟩ : ByteArray) = X2 at *
          generalize ((itm L)[j]'hjI).2 = y at *
          clear hjL hjI
          have q0 : ∀ u : InW (Fr NoF wr.drew), u.to.cell? ⟨g1, j * 2, none⟩ = some (.string X) := fun u => u.ok.cell_ (w := wr.drew) c0 (fun x => x)
          have q1 : ∀ u : InW (Fr NoF wr.drew), u.to.cell? ⟨g1, j * 2 + 1, none⟩ = some (.string Y) := fun u => u.ok.cell_ (w := wr.drew) c1 (fun x => x)
          have q2 : ∀ u : InW (Fr NoF wr.drew), u.to.cell? ⟨g2, j * 2, none⟩ = some (.string X) := fun u => u.ok.cell_ (w := wr.drew) c2 (fun x => x)
          have q3 : ∀ u : InW (Fr NoF wr.drew), u.to.cell? ⟨g2, j * 2 + 1, none⟩ = some (.string Y) := fun u => u.ok.cell_ (w := wr.drew) c3 (fun x => x)
          have q4 : ∀ u : InW (Fr NoF wr.drew), u.to.cell? ⟨g3, j * 2, none⟩ = some (.string X2) := fun u => u.ok.cell_ (w := wr.drew) c4 (fun x => x)
          have q5 : ∀ u : InW (Fr NoF wr.drew), u.to.cell? ⟨g3, j * 2 + 1, none⟩ = some (.int .i64 (y : Int)) := fun u => u.ok.cell_ (w := wr.drew) c5 (fun x => x)
          have q6 : ∀ u : InW (Fr NoF wr.drew), u.to.cell? ⟨g4, j * 2, none⟩ = some (.string X2) := fun u => u.ok.cell_ (w := wr.drew) c6 (fun x => x)
          have q7 : ∀ u : InW (Fr NoF wr.drew), u.to.cell? ⟨g4, j * 2 + 1, none⟩ = some (.int .i64 (y : Int)) := fun u => u.ok.cell_ (w := wr.drew) c7 (fun x => x)
          clear c0 c1 c2 c3 c4 c5 c6 c7
          go_upto_region 21 with fail
          refine wp_region_mix 20 [(0, true), (1, true), (2, true), (3, true), (4, true), (5, true), (6, true), (7, true), (8, true), (9, true), (10, true), (11, true), (12, true), (13, true), (14, true), (15, true), (16, true), (17, true), (18, true), (19, true)] (by kernel_rfl) (by kernel_rfl) ?_
          simp only [planOps, List.getElem?_cons_zero, List.getElem?_cons_succ, List.drop_succ_cons, List.drop_zero]
          repeat (first | (refine mix_skip (by rfl) ?_; (simp only [Act.put, List.setIfInBounds_toArray, List.set_cons_zero, List.set_cons_succ])) | (refine mix_step (by rfl) ?_; apply Exists.intro; refine ⟨fun u => ?_, ?_⟩; (focus (unfold quietF; go_simp; first | done | exact ⟨rfl, rfl⟩)); (simp only [Act.put, List.setIfInBounds_toArray, List.set_cons_zero, List.set_cons_succ])))
          refine mix_nil (fun w2 hf2 => ?_)
          have JF2 := Lib.hid ((JF.out.drew).trans hf2 (fun _ h => .inl h))
          clear hf2 q0 q1 q2 q3 q4 q5 q6 q7 JF
          go_wp2
          go_roundw
          case rel => exact ⟨j + 1, hjt, by go_num, JF2⟩
          case measure => simp [intOf]; omega
        · obtain rfl : j = i := by omega
          clear hjt hj
          have I10 := Lib.hid (own_keep I9.out JF.out (fun _ _ x => x))
          have F10 := Lib.hid (F9.out.trans JF.out (fun _ h => .inl h))
          clear I9 R9 K9 Q9 F9 JF Hx
          have ad1 := Had1.out
          go_upto_region 24 with (go_at_call 24; refine (HP2.out B5 _ wr I10.out).mono ?_; rintro e w11 ⟨rfl, h⟩; have I11 := Lib.hid (own_keep I10.out h (fun _ _ x => x)); have F11 := Lib.hid (F10.out.trans h (fun _ h => .inl h)); clear h)
          clear ad1 Had1 HP2 I10 F10
          have hz := Hz.out
          have hk := Hk.out
          have hkt := Hkt.out
          have hSK := HSK.out
          go_upto_region 25 with fail
          clear hk hkt hz
          go_upto_region 26 with (go_at_call 17; refine (HD3.out w11).mono ?_; rintro e w12 ⟨⟨v19, rfl, rfl⟩, h⟩; have I12 := Lib.hid (own_keep I11.out h (fun _ _ x => x)); have F12 := Lib.hid (F11.out.trans h (fun _ h => .inl h)); clear h)
          clear hSK HSK HD3 I11 F11
          have ad2 := Had2.out
          go_upto_region 27 with (go_at_call 17; refine (HD2.out w12).mono ?_; rintro e w13 ⟨⟨v20, rfl, rfl⟩, h⟩; have I13 := Lib.hid (own_keep I12.out h (fun _ _ x => x)); have F13 := Lib.hid (F12.out.trans h (fun _ h => .inl h)); clear h)
          clear ad2 Had2 HD2 I12 F12
          have hA1 := HA12.out
          by_cases h0 : 0 < A.size
          · have h0I : (0 : Int) < (A.size : Int) := by omega
            have h1I : (1 : Int) ≤ (A.size : Int) := by omega
            have hp3 := HP3.out h0
            have HP4 := Lib.hid hp3
            clear hp3 HP3
            go_wp2_with (go_at_call 24; refine (HP4.out B5 _ w13 I13.out).mono ?_; rintro e w14 ⟨rfl, h⟩; have F14 := Lib.hid (F13.out.trans h (fun _ h => .inl h)); clear h)
            go_ret
            exact ⟨rfl, F14.out⟩
          · have h0I : ¬ (0 : Int) < (A.size : Int) := by omega
            clear HP3
            go_wp2
            go_ret
            exact ⟨rfl, F13.out⟩
end Go.Proofs.Ytlkiijojldnlbaa
