/- Layer 27 (index): a text parted among items; the document's Bytes and Index. -/
import Derived.Test.YtlkiijojldnlbaaIxC
namespace Go.Proofs.Ytlkiijojldnlbaa
set_option linter.unusedVariables false
open Go.RowKit Go.My Go.Ix

/-- What is parted. -/
def partE (l : List (List UInt8 × Nat)) (s : List UInt8) (i : Nat) : Ents := (List.range i).map fun k => ((l.getD k ([], 0)).1, (s.drop (sumS l k)).take (l.getD k ([], 0)).2)
theorem partE_snoc (l : List (List UInt8 × Nat)) (s : List UInt8) (i : Nat) : partE l s (i + 1) = partE l s i ++ [((l.getD i ([], 0)).1, (s.drop (sumS l i)).take (l.getD i ([], 0)).2)] := by simp [partE, List.range_succ]
theorem sumS_mono (l : List (List UInt8 × Nat)) (i : Nat) : ∀ k, sumS l i ≤ sumS l (i + k)
  | 0 => Nat.le_refl _
  | k + 1 => Nat.le_trans (sumS_mono l i k) (Nat.le_add_right _ _)
def PartPost (l : List (List UInt8 × Nat)) (s : List UInt8) (n : Nat) (w : World) (e : Ending) (w' : World) : Prop :=
  (sumS l n = s.length → ∃ v, e = .returned (.tuple #[v, .bool true]) ∧ w'.ownsRow w.heap.size 54 2 v n (entsV (partE l s n))) ∧
  (sumS l n ≠ s.length → e = .returned (.tuple #[.slice none 0 0, .bool false])) ∧ Fr NoF w w'
theorem PartPost.no {l : List (List UInt8 × Nat)} {s : List UInt8} {n : Nat} {w w' : World} (h : sumS l n ≠ s.length) (hf : Fr NoF w w') : PartPost l s n w (.returned (.tuple #[.slice none 0 0, .bool false])) w' :=
  ⟨fun h2 => absurd h2 h, fun _ => rfl, hf⟩
theorem PartPost.yes {l : List (List UInt8 × Nat)} {s : List UInt8} {n : Nat} {w w' : World} {v : Value} (h : sumS l n = s.length) (ho : w'.ownsRow w.heap.size 54 2 v n (entsV (partE l s n))) (hf : Fr NoF w w') : PartPost l s n w (.returned (.tuple #[v, .bool true])) w' :=
  ⟨fun _ => ⟨v, rfl, ho⟩, fun h2 => absurd h h2, hf⟩

set_option maxHeartbeats 8000000 in
set_option maxRecDepth 100000 in
theorem part_is (l : List (List UInt8 × Nat)) (s : List UInt8) (n : Nat) (hn : l.length = n) (hb : n ≤ 1000) (hs : s.length ≤ 1000000) (hx : ∀ (k : Nat) (h : k < l.length), (l[k]).2 ≤ 1000000) (B0 : Nat) (v : Value) (w : World) (ho : w.ownsRow B0 48 2 v n (itemsV l)) :
    Calls Try.prog 24 #[v, .string ⟨s.toArray⟩] w (PartPost l s n w) := by
  obtain ⟨i0, hi, hz0, hz1, hz2⟩ := info_parts infoEn
  have Hi := Lib.hid hi
  have Hz0 := Lib.hid hz0
  have Hz1 := Lib.hid hz1
  have Hz2 := Lib.hid hz2
  clear hi hz0 hz1 hz2
  obtain ⟨a, p, hv⟩ := own_any ho
  subst hv
  have hbI : (n : Int) ≤ 1000 := by omega
  obtain ⟨S0, hS0⟩ : ∃ S, (⟨s.toArray⟩ : ByteArray) = S := ⟨_, rfl⟩
  rw [hS0]
  have HS0 := Lib.hid hS0
  have Ho := Lib.hid ho
  have Hn := Lib.hid hn
  have Hx := Lib.hid hx
  have Hs := Lib.hid hs
  clear ho hn hx hS0 hs
  go_enter Try.func24, Try.ntmps24
  go_upto_region 3 with fail
  go_loopw [1, 6, 8, 11] (fun v1 v6 _ v11 wr => ∃ (i : Nat) (S : ByteArray), i ≤ n ∧ v11 = .int .i64 (i : Int) ∧ v1 = .string S ∧ Hid (S = ⟨(s.drop (sumS l i)).toArray⟩ ∧ sumS l i ≤ s.length) ∧ Hid (wr.ownsRow w.heap.size 54 2 v6 i (entsV (partE l s i))) ∧ Hid (Fr NoF w wr)) (fun _ _ _ v11 _ => n - (intOf v11).toNat)
  case atStart => exact ⟨0, S0, Nat.zero_le _, rfl, rfl, Lib.hid ⟨by rw [← HS0.out]; simp [sumS], Nat.zero_le _⟩, ⟨rfl, .inl ⟨rfl, rfl⟩⟩, Fr.refl _ _⟩
  case round =>
    clear HS0
    obtain ⟨i, S, hi, rfl, rfl, KS, KW, KF⟩ := hrel
    obtain ⟨a6, p6, hv6⟩ := own_any KW.out
    subst hv6
    have hSz : S.size = s.length - sumS l i := by
      rw [KS.out.1]
      show (s.drop (sumS l i)).toArray.size = _
      simp
    have hsl := KS.out.2
    have hs := Hs.out
    by_cases hlt : i < n
    · have hI : (i : Int) < (n : Int) := by omega
      have hi0 : (0 : Int) ≤ (i : Int) := by omega
      have hkL : i < l.length := by rw [Hn.out]; exact hlt
      have r1 := own_keep Ho.out KF.out (fun _ _ x => x)
      obtain ⟨g, c, e1⟩ := own_slice r1 (by omega)
      injection e1 with e1 _ e3
      subst e1
      clear e3
      rw [← Hn.out] at r1
      obtain ⟨c0, c1⟩ := item_cell r1 i hkL
      have hsm := Hx.out i hkL
      have hgd : l.getD i ([], 0) = l[i]'hkL := by simp [List.getD, List.getElem?_eq_getElem hkL]
      have hps := partE_snoc l s i
      have hsu : sumS l (i + 1) = sumS l i + (l[i]'hkL).2 := by
        show sumS l i + (l.getD i ([], 0)).2 = _
        rw [hgd]
      have hmono := sumS_mono l (i + 1) (n - (i + 1))
      rw [show i + 1 + (n - (i + 1)) = n by omega, hsu] at hmono
      rw [hgd] at hps
      have Hps := Lib.hid hps
      have Hsu := Lib.hid hsu
      obtain ⟨X, hX⟩ : ∃ X, (⟨(l[i]'hkL).1.toArray⟩ : ByteArray) = X := ⟨_, rfl⟩
      obtain ⟨z, hz⟩ : ∃ z, (l[i]'hkL).2 = z := ⟨_, rfl⟩
      rw [hX] at c0
      rw [hz] at c1 hsm hmono
      have HX := Lib.hid hX
      have Hz := Lib.hid hz
      clear r1 hps hsu hgd hX hz
      have hzI : (z : Int) ≤ 1000000 := by omega
      have hz0 : (0 : Int) ≤ (z : Int) := by omega
      by_cases hfit : z ≤ S.size
      · have hfI : ¬ (S.size : Int) < (z : Int) := by omega
        have hfI2 : (z : Int) ≤ (S.size : Int) := by omega
        have hSzI : (S.size : Int) ≤ 1000000 := by omega
        have Hmono := Lib.hid hmono
        have HSz := Lib.hid hSz
        have Hsl := Lib.hid hsl
        have hSb : S.size ≤ 1000000 := by omega
        clear hmono hSz hsl hs hfit
        go_upto_region 7 with fail
        have hst : ∃ W8 xb, wr.alloc (.cells #[.string X, .int .i64 (z : Int)] 48) = W8 ∧ wr.heap.size = xb ∧ Fr NoF w W8 ∧ W8.ownsRow w.heap.size 54 2 (.slice a6 i p6) i (entsV (partE l s i)) ∧ W8.heap[xb]? = some (.cells #[.string X, .int .i64 (z : Int)] 48 (0, 0)) :=
          ⟨_, _, rfl, rfl, KF.out.alloc _, own_keep KW.out ((Fr.refl NoF wr).alloc _) (fun _ _ x => x), heap_alloc_new wr _⟩
        obtain ⟨W8, xb, hW8, hxb, hf8, ho8, hx8⟩ := hst
        rw [hW8, hxb]
        have q0 : ∀ u : InW (Fr NoF W8.drew), u.to.cell? ⟨xb, 0, none⟩ = some (.string X) := fun u => u.ok.cell_ (w := W8.drew) ((cell_of (w := W8.drew) hx8 0).trans rfl) (fun x => x)
        have q1 : ∀ u : InW (Fr NoF W8.drew), u.to.cell? ⟨xb, 1, none⟩ = some (.int .i64 (z : Int)) := fun u => u.ok.cell_ (w := W8.drew) ((cell_of (w := W8.drew) hx8 1).trans rfl) (fun x => x)
        have HF8 := Lib.hid hf8
        have HO8 := Lib.hid ho8
        have HX8 := Lib.hid hx8
        clear hW8 hxb hf8 ho8 hx8 c0 c1 KW KF
        refine wp_region_mix 9 [(0, true), (1, true), (2, true), (3, true), (4, true), (5, true), (6, true), (7, true), (8, false)] (by kernel_rfl) (by kernel_rfl) ?_
        simp only [planOps, List.getElem?_cons_zero, List.getElem?_cons_succ, List.drop_succ_cons, List.drop_zero]
        repeat (first | (refine mix_skip (by rfl) ?_; (simp only [Act.put, List.setIfInBounds_toArray, List.set_cons_zero, List.set_cons_succ])) | (refine mix_step (by rfl) ?_; apply Exists.intro; refine ⟨fun u => ?_, ?_⟩; (focus (unfold quietF; go_simp; first | done | exact ⟨rfl, rfl⟩)); (simp only [Act.put, List.setIfInBounds_toArray, List.set_cons_zero, List.set_cons_succ])))
        refine mix_loud (by rfl) (fun w1 hf1 K hK => ?_)
        go_simp
        refine hK.out _ _ ((Fr.refl _ _).alloc _) ?_
        clear hK K
        refine mix_nil (fun w2 hf2 => ?_)
        have hblk := hf2.keep (heap_alloc_new w1 (.cells #[.string X, .string (S.extract 0 z)] 54)) (fun x => x)
        have hfA : Fr NoF W8 w2 := (((Fr.refl _ W8).drew.trans hf1 (fun _ h => .inl h)).alloc _).trans hf2 (fun _ h => .inl h)
        have hrow := own_keep HO8.out hfA (fun _ _ x => x)
        have d1 : w2.cell? ⟨xb, 1, none⟩ = some (.int .i64 (z : Int)) := hfA.cell_ ((cell_of HX8.out 1).trans rfl) (fun x => x)
        have hxs : xb < w2.heap.size := Nat.lt_of_lt_of_le (lt_of_block HX8.out) hfA.size
        have hxt := hfA.keep HX8.out (fun x => x)
        have hsz : w.heap.size ≤ w2.heap.size := Nat.le_trans HF8.out.size hfA.size
        generalize w1.heap.size = nb at *
        have HFA := Lib.hid (HF8.out.trans hfA (fun _ h => .inl h))
        have HRow := Lib.hid hrow
        have HBlk := Lib.hid hblk
        have Hsz := Lib.hid hsz
        have Hxt := Lib.hid hxt
        clear hf1 hf2 hblk hfA hrow hsz hxt q0 q1 HF8 HO8 HX8
        obtain ⟨Y1, hY1⟩ : ∃ Y, S.extract 0 z = Y := ⟨_, rfl⟩
        rw [hY1] at HBlk ⊢
        have HY1 := Lib.hid hY1
        clear hY1
        go_wp2_with (at_builtin; refine wpList_append_my _ rfl _ _ 51 rfl w.heap.size 54 i0 (.agg #[.string ByteArray.empty, .string ByteArray.empty]) 2 32 Try.underlying51 Hi.out Hz0.out Hz1.out Hz2.out rfl (by decide) (.slice a6 i p6) i _ (by rfl) HRow.out ⟨nb, 0, none⟩ 1 1 [.string X, .string Y1] (by rfl) (by rfl) (World.news_of_block (cs := #[.string X, .string Y1]) (t := 54) (fr := (0, 0)) HBlk.out) (by simp [Value.oneCell']) (by omega) (by unfold maxLen; omega) (by omega) Hsz.out _ rfl ?_; intro g cap2 w6 hown hgrow hat hlt2 hsame; have IB := Lib.hid hown; have IF : Hid (Fr NoF w w6) := Lib.hid (HFA.out.grown hgrow (fun k hk => .inr (own_base HRow.out hk))); have d2 : w6.cell? ⟨xb, 1, none⟩ = some (.int .i64 (z : Int)) := ((Fr.refl (fun k => (Value.slice a6 i p6).ownBlock = some k) w2).grown hgrow (fun k hk => .inl hk)).cell_ d1 (fun e => by obtain ⟨cur, hc⟩ := own_ty HRow.out e; exact ne_of_ty hc Hxt.out (by decide) rfl); clear hown hgrow hat hlt2 hsame)
        go_roundw
        case rel =>
          refine ⟨i + 1, _, hlt, by go_num, rfl, ?_, ?_, IF⟩
          · refine Lib.hid ⟨?_, ?_⟩
            · rw [KS.out.1, Hsu.out, Hz.out]
              have : (⟨(s.drop (sumS l i)).toArray⟩ : ByteArray).size = (⟨(s.drop (sumS l i)).toArray⟩ : ByteArray).size := rfl
              first
                | rw [ext_drop, List.drop_drop]
                | (rw [← KS.out.1]; rw [KS.out.1, ext_drop, List.drop_drop])
            · rw [Hsu.out, Hz.out]; have := HSz.out; have := Hsl.out; omega
          · rw [Hps.out, entsV_snoc, HX.out, Hz.out]
            dsimp only
            rw [← ext_take, ← KS.out.1, HY1.out]
            exact IB
        case measure => simp [intOf]; omega
      · have hfI : (S.size : Int) < (z : Int) := by omega
        have hne : sumS l n ≠ s.length := by omega
        have Hne := Lib.hid hne
        clear hmono hSz hsl hs hne
        go_wp2
        go_ret2
        exact PartPost.no Hne.out (KF.out.alloc _)
    · obtain rfl : i = n := by omega
      have hI : ¬ (i : Int) < (i : Int) := by omega
      by_cases hz : S.size = 0
      · have hSe : S = ⟨#[]⟩ := by
          rw [KS.out.1]
          congr 1
          have : (s.drop (sumS l i)).length = 0 := by rw [List.length_drop]; omega
          rw [List.eq_nil_of_length_eq_zero this]
        have heq : sumS l i = s.length := by omega
        have Heq := Lib.hid heq
        subst hSe
        clear hSz hsl hs heq hz
        go_wp2
        go_ret2
        exact PartPost.yes Heq.out KW.out KF.out
      · have heq : sumS l i ≠ s.length := by omega
        have Heq := Lib.hid heq
        have h1 := KS.out.1
        clear hSz hsl hs heq KS
        generalize s.drop (sumS l i) = r at h1
        subst h1
        have hSe : (!r.isEmpty) = true := by
          cases r with
          | nil => exact absurd rfl hz
          | cons x r => rfl
        clear hz
        go_wp2
        go_ret2
        exact PartPost.no Heq.out KF.out

theorem lb_succ (n i : Nat) : lb n (i + 1) = lb n i ++ [UInt8.ofNat (n / 256 ^ i % 256)] := by simp [lb, List.range_succ]

set_option maxHeartbeats 4000000 in
set_option maxRecDepth 100000 in
theorem refBytes_is (n k : Nat) (hn : n < 4294967296) (hk : 1 ≤ k ∧ k ≤ 4) (w : World) :
    Calls Try.prog 34 #[.int .i64 (n : Int), .int .i64 (k : Int)] w fun e w' => e = .returned (.string ⟨(lb n k).toArray⟩) ∧ Fr (fun _ => False) w w' := by
  have hkI : (k : Int) ≤ 4 := by omega
  have Hn := Lib.hid hn
  have Hk := Lib.hid hk
  clear hn hk
  go_enter Try.func34, Try.ntmps34
  go_upto_region 3 with fail
  go_loopw [0, 5, 6] (fun v0 v5 v6 wr => ∃ (i m : Nat) (S : ByteArray), i ≤ k ∧ m < 4294967296 ∧ v6 = .int .i64 (i : Int) ∧ v0 = .int .i64 (m : Int) ∧ v5 = .string S ∧ S.size ≤ 10 ∧ Hid (m = n / 256 ^ i) ∧ Hid (S = ⟨(lb n i).toArray⟩) ∧ Hid (Fr NoF w wr)) (fun _ _ v6 _ => k - (intOf v6).toNat)
  case atStart => exact ⟨0, n, ⟨#[]⟩, Nat.zero_le _, Hn.out, rfl, rfl, rfl, by decide, Lib.hid (by simp), Lib.hid rfl, Fr.refl _ _⟩
  case round =>
    obtain ⟨i, m, S, hi, hm, rfl, rfl, rfl, hS, KM, KS, KF⟩ := hrel
    by_cases hlt : i < k
    · have hI : (i : Int) < (k : Int) := by omega
      have hmI : (m : Int) < 4294967296 := by omega
      obtain ⟨r, hr⟩ : ∃ r, m % 256 = r := ⟨_, rfl⟩
      obtain ⟨q, hq⟩ : ∃ q, m / 256 = q := ⟨_, rfl⟩
      have hrI : (m : Int) % 256 = (r : Int) := by omega
      have hqI : (m : Int) / 256 = (q : Int) := by omega
      have hr256 : r < 256 := by omega
      have hrI2 : (r : Int) < 256 := by omega
      have hb : (UInt8.ofNat (n / 256 ^ i % 256)).toNat = r := by rw [UInt8.toNat_ofNat', ← hr, ← KM.out]; exact Nat.mod_mod _ _
      have hls := lb_succ n i
      obtain ⟨b, hbb⟩ : ∃ b : UInt8, UInt8.ofNat (n / 256 ^ i % 256) = b := ⟨_, rfl⟩
      rw [hbb] at hb hls
      have hown : (wr.alloc (.cells #[.int .u8 (r : Int)] 5)).ownsRow 0 5 1 (.slice (some ⟨wr.heap.size, 0, none⟩) 1 1) 1 (bytesV [b]) := by
        refine ⟨rfl, .inr ⟨_, 1, _, rfl, Nat.zero_le _, heap_alloc_new wr _, Nat.le_refl _, by decide, rfl, ?_⟩⟩
        simp [bytesV, hb]
      have hcv := own_text hown
      have hqq : q = n / 256 ^ (i + 1) := by rw [← hq, KM.out, Nat.pow_succ, Nat.div_div_eq_div_mul]
      obtain ⟨T, hT⟩ : ∃ T : ByteArray, (⟨([b] : List UInt8).toArray⟩ : ByteArray) = T := ⟨_, rfl⟩
      obtain ⟨SA, hSA⟩ : ∃ SA : ByteArray, S ++ T = SA := ⟨_, rfl⟩
      have hT1 : T.size = 1 := by rw [← hT]; rfl
      have hSA2 : SA.size = S.size + 1 := by rw [← hSA, ByteArray.size_append, hT1]
      have hSz : S.size = i := by rw [KS.out]; show (lb n i).toArray.size = i; simp [lb_length]
      have ad1 := fun U => run_string_add_sum (P := Try.prog) U S T (by omega)
      rw [hSA] at ad1
      rw [hT] at hcv
      have hSA3 : SA = ⟨(lb n (i + 1)).toArray⟩ := by
        rw [← hSA, ← hT, KS.out, hls]
        apply ByteArray.ext
        apply Array.ext'
        simp
      have HSA3 := Lib.hid hSA3
      have HSA2 := Lib.hid hSA2
      have Hqq := Lib.hid hqq
      have hq2 : q < 4294967296 := by omega
      have hSA10 : SA.size ≤ 10 := by have := Hk.out.2; omega
      clear hr hq hb hls hbb hown hqq hT hSA hT1 hSA2 hSz hSA3
      go_wp2
      go_roundw
      case rel => exact ⟨i + 1, q, SA, hlt, hq2, by go_num, rfl, rfl, hSA10, Hqq, HSA3, KF.out.alloc _⟩
      case measure => simp [intOf]; omega
    · obtain rfl : i = k := by omega
      clear hlt hi
      go_wp2
      go_ret
      exact ⟨by rw [KS.out]; rfl, KF.out⟩
end Go.Proofs.Ytlkiijojldnlbaa
