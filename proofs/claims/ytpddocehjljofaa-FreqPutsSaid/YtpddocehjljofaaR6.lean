/- The document's tables (cassoneref05): a sign is added. -/
import Derived.Test.YtpddocehjljofaaR5
import Derived.Test.YtpddocehjljofaaQb
import Derived.Test.YtpddocehjljofaaFb
namespace Go.Proofs.Ytpddocehjljofaa
set_option linter.unusedVariables false
open Go.RowKit Go.My
attribute [local go_sem ↓] Go.wp_at_zero Go.wp_at_succ

theorem nw1 (w : World) (a : Obj) : (w.alloc a).drew.heap[w.heap.size]? = some a := heap_alloc_new w a
theorem nw2a (w : World) (a b : Obj) : ((w.alloc a).alloc b).drew.heap[w.heap.size]? = some a := block_alloc (heap_alloc_new w a)
theorem nw2b (w : World) (a b : Obj) : ((w.alloc a).alloc b).drew.heap[w.heap.size + 1]? = some b := two_new w a b
theorem nw3a (w : World) (a b c : Obj) : (((w.alloc a).alloc b).alloc c).drew.heap[w.heap.size]? = some a := block_alloc (block_alloc (heap_alloc_new w a))
theorem nw3b (w : World) (a b c : Obj) : (((w.alloc a).alloc b).alloc c).drew.heap[w.heap.size + 1]? = some b := block_alloc (two_new w a b)
theorem nw3c (w : World) (a b c : Obj) : (((w.alloc a).alloc b).alloc c).drew.heap[w.heap.size + 1 + 1]? = some c := by
  have h := heap_alloc_new ((w.alloc a).alloc b) c
  rw [show ((w.alloc a).alloc b).heap.size = w.heap.size + 1 + 1 by simp] at h
  exact h
theorem nx1 (w : World) (a : Obj) : (w.alloc a).heap[w.heap.size]? = some a := heap_alloc_new w a
theorem nx2a (w : World) (a b : Obj) : ((w.alloc a).alloc b).heap[w.heap.size]? = some a := block_alloc (heap_alloc_new w a)
theorem nx2b (w : World) (a b : Obj) : ((w.alloc a).alloc b).heap[w.heap.size + 1]? = some b := two_new w a b
/-- A row of bytes stands where a row of other type was turned. -/
theorem own1_keep {w1 W w2 : World} {v : Value} {n bk : Nat} {xs : List Value} (h : w1.ownsRow 0 5 1 v n xs) (hf : Fr (fun _ => False) w1 W) (hg : Fr (fun k => (Value.slice (some ⟨bk, 0, none⟩) 0 0).ownBlock = some k) W w2) (hb : W.heap[bk]? = some (.cells #[] 3 (0, 0))) : w2.ownsRow 0 5 1 v n xs := by
  have h1 := own_keep h hf (fun _ _ h => h)
  refine own_keep h1 hg (fun k hk hk2 => ?_)
  obtain ⟨cur, hc⟩ := own_ty h1 hk
  simp only [Value.ownBlock, Option.some.injEq] at hk2
  subst hk2
  exact ne_of_ty hc hb (by decide) rfl
theorem rel_store {W0 w2 : World} {bo : Nat} {v1 v2 : Value} {n : Nat} {xs ys : List Value} (hq : w2.heap[bo]? = some (.cells #[.slice none 0 0, .slice none 0 0] 89 (0, 0))) (hF : Fr (fun _ => False) W0 w2) (h1 : w2.ownsRow 0 5 1 v1 n xs) (h2 : w2.ownsRow 0 3 1 v2 n ys) (hb : W0.heap.size ≤ bo) :
    Fr (fun _ => False) W0 ((w2.setCell ⟨bo, 0, none⟩ v1).setCell ⟨bo, 1, none⟩ v2) ∧ ((w2.setCell ⟨bo, 0, none⟩ v1).setCell ⟨bo, 1, none⟩ v2).heap[bo]? = some (.cells #[v1, v2] 89 (0, 0)) ∧ ((w2.setCell ⟨bo, 0, none⟩ v1).setCell ⟨bo, 1, none⟩ v2).ownsRow 0 5 1 v1 n xs ∧ ((w2.setCell ⟨bo, 0, none⟩ v1).setCell ⟨bo, 1, none⟩ v2).ownsRow 0 3 1 v2 n ys := by
  have hf : Fr (fun k => k = bo) w2 ((w2.setCell ⟨bo, 0, none⟩ v1).setCell ⟨bo, 1, none⟩ v2) := ((Fr.refl (fun k => k = bo) w2).setCell ⟨bo, 0, none⟩ _ (.inl rfl)).setCell ⟨bo, 1, none⟩ _ (.inl rfl)
  refine ⟨hF.trans hf (fun k hk => .inr (by subst hk; exact hb)), block_setCell (block_setCell hq _) _, own_keep h1 hf (fun k hk hk2 => ?_), own_keep h2 hf (fun k hk hk2 => ?_)⟩
  · obtain ⟨cur, hc⟩ := own_ty h1 hk; subst hk2; exact ne_of_ty hc hq (by decide) rfl
  · obtain ⟨cur, hc⟩ := own_ty h2 hk; subst hk2; exact ne_of_ty hc hq (by decide) rfl
theorem rel_alloc {W0 w2 : World} {v1 v2 : Value} {n : Nat} {xs ys : List Value} (hF : Fr (fun _ => False) W0 w2) (h1 : w2.ownsRow 0 5 1 v1 n xs) (h2 : w2.ownsRow 0 3 1 v2 n ys) :
    Fr (fun _ => False) W0 (w2.alloc (.cells #[v1, v2] 89)) ∧ (w2.alloc (.cells #[v1, v2] 89)).heap[w2.heap.size]? = some (.cells #[v1, v2] 89 (0, 0)) ∧ (w2.alloc (.cells #[v1, v2] 89)).ownsRow 0 5 1 v1 n xs ∧ (w2.alloc (.cells #[v1, v2] 89)).ownsRow 0 3 1 v2 n ys :=
  ⟨hF.alloc _, heap_alloc_new w2 _, own_keep (S := fun _ => False) h1 ((Fr.refl _ _).alloc _) (fun _ _ h => h), own_keep (S := fun _ => False) h2 ((Fr.refl _ _).alloc _) (fun _ _ h => h)⟩
theorem fin6 {W0 W : World} {B1 B2 : Option Addr} {q1 q2 L bo : Nat} {xs ys : List Value} (f1 : ∀ k, (Value.slice B1 L q1).ownBlock = some k → W0.heap.size ≤ k) (f2 : ∀ k, (Value.slice B2 L q2).ownBlock = some k → W0.heap.size ≤ k) (h : Fr (fun _ => False) W0 W ∧ W.heap[bo]? = some (.cells #[.slice B1 L q1, .slice B2 L q2] 89 (0, 0)) ∧ W.ownsRow 0 5 1 (.slice B1 L q1) L xs ∧ W.ownsRow 0 3 1 (.slice B2 L q2) L ys) (hb : W0.heap.size ≤ bo) :
    ∃ b B1 q1 B2 q2, Value.pointer (some ⟨bo, 0, none⟩) = .pointer (some ⟨b, 0, none⟩) ∧ Hid (Fr (fun _ => False) W0 W) ∧ Hid (W.heap[b]? = some (.cells #[.slice B1 L q1, .slice B2 L q2] 89 (0, 0))) ∧ Hid (W.ownsRow 0 5 1 (.slice B1 L q1) L xs) ∧ Hid (W.ownsRow 0 3 1 (.slice B2 L q2) L ys) ∧ Hid (W0.heap.size ≤ b) ∧ Hid (∀ k, (Value.slice B1 L q1).ownBlock = some k → W0.heap.size ≤ k) ∧ Hid (∀ k, (Value.slice B2 L q2).ownBlock = some k → W0.heap.size ≤ k) :=
  ⟨bo, B1, q1, B2, q2, rfl, h.1, h.2.1, h.2.2.1, h.2.2.2, hb, f1, f2⟩
theorem own_made {w : World} {bk : Nat} {E : TypeId} (h : w.heap[bk]? = some (.cells #[] E (0, 0))) : w.ownsRow 0 E 1 (.slice (some ⟨bk, 0, none⟩) 0 0) 0 [] :=
  ⟨rfl, .inr ⟨bk, 0, #[], rfl, Nat.zero_le _, h, Nat.le_refl _, Nat.zero_le _, rfl, rfl⟩⟩

set_option maxHeartbeats 16000000 in
set_option maxRecDepth 100000 in
theorem ref_tab_add (r : Value) (t : Fq.T) (x : UInt8) (w : World) (h : RTab w r t) (hOk : t.Ok) :
    Calls Try.prog 50 #[r, .int .u8 (x.toNat : Int)] w fun e w' => ∃ r', e = .returned r' ∧ RTabN w' w.heap.size r' (t.add x) ∧ Fr (fun _ => False) w w' := by
  obtain ⟨TA, hTA⟩ : ∃ TA, t.add x = TA := ⟨_, rfl⟩
  rw [hTA]
  have HTA := Lib.hid hTA
  obtain ⟨ws, hws⟩ : ∃ ws, w.heap.size = ws := ⟨_, rfl⟩
  rw [hws]
  have HWs := Lib.hid hws
  clear hTA hws
  obtain ⟨A1, k1, A2, k2, rfl, hos, hoc⟩ := h.ex
  obtain ⟨i0, hi, hz0, hz1, hz2⟩ := info_parts info5
  obtain ⟨i3, ki, kz0, kz1, kz2⟩ := info_parts info3
  have hcl := hOk.len
  have hsz := hOk.size
  obtain ⟨L, hL⟩ : ∃ L, t.s.length = L := ⟨_, rfl⟩
  rw [hcl, hL] at hoc ⊢
  rw [hL] at hos
  have h1 : 0 + L ≤ maxLen := by unfold maxLen; omega
  have h2 : (0 + L) * 1 ≤ 140737488355328 := by omega
  have h3 : (0 + L) * 8 ≤ 140737488355328 := by omega
  have hl1 : (bytesV t.s).length = L * 1 := by rw [bytesV_length, hL]; omega
  have hl2 : (intsV t.c).length = L * 1 := by rw [intsV_len, hcl, hL]; omega
  have Hi := Lib.hid hi
  have Hz0 := Lib.hid hz0
  have Hz1 := Lib.hid hz1
  have Hz2 := Lib.hid hz2
  have Ki := Lib.hid ki
  have Kz0 := Lib.hid kz0
  have Kz1 := Lib.hid kz1
  have Kz2 := Lib.hid kz2
  have H1 := Lib.hid h1
  have H2 := Lib.hid h2
  have H3 := Lib.hid h3
  have Hl1 := Lib.hid hl1
  have Hl2 := Lib.hid hl2
  have HOk := Lib.hid hOk
  have Hcl := Lib.hid hcl
  have HL := Lib.hid hL
  have hLi : (L : Int) ≤ 256 := by omega
  obtain ⟨B, hB⟩ : ∃ B, (x.toNat : Int) = B := ⟨_, rfl⟩
  rw [hB]
  have HB := Lib.hid hB
  clear hi hz0 hz1 hz2 ki kz0 kz1 kz2 h1 h2 h3 hl1 hl2 hL hcl hsz hOk h hB
  go_enter Try.func50, Try.ntmps50
  go_upto_region 1 with fail
  have hst : ∃ W0 Z, (w.alloc (.cells #[.slice A1 L k1, .slice A2 L k2] 89)).alloc (.cells #[.slice none 0 0, .slice none 0 0] 89) = W0 ∧ w.heap.size = Z ∧ Fr (fun _ => False) w W0 ∧ W0.heap[Z]? = some (.cells #[.slice A1 L k1, .slice A2 L k2] 89 (0, 0)) ∧ W0.heap[Z + 1]? = some (.cells #[.slice none 0 0, .slice none 0 0] 89 (0, 0)) :=
    ⟨_, _, rfl, rfl, ((Fr.refl _ _).alloc _).alloc _, block_alloc (heap_alloc_new w _), two_new w _ _⟩
  obtain ⟨W0, Z, hW0, hZ, hF0, hb0, hbr⟩ := hst
  rw [hW0, hZ]
  have hZw : w.heap.size ≤ Z := by omega
  have Hos := Lib.hid (own_keep (S := fun _ => False) hos hF0 (fun _ _ h => h))
  have Hoc := Lib.hid (own_keep (S := fun _ => False) hoc hF0 (fun _ _ h => h))
  have HF0 := Lib.hid hF0
  have HZw := Lib.hid hZw
  have Hbr := Lib.hid hbr
  have c0 : W0.cell? ⟨Z, 0, none⟩ = some (.slice A1 L k1) := (cell_of hb0 0).trans rfl
  have c1 : W0.cell? ⟨Z, 1, none⟩ = some (.slice A2 L k2) := (cell_of hb0 1).trans rfl
  have hzl : Z < W0.heap.size := lt_of_block hb0
  have hzl1 : Z < W0.heap.size + 1 := Nat.lt_succ_of_lt hzl
  have hzl2 : Z < W0.heap.size + 1 + 1 := Nat.lt_succ_of_lt hzl1
  clear hW0 hZ hF0 hb0 hbr hos hoc hZw
  go_cut [5] (fun v5 wx => ∃ bo B1 q1 B2 q2, v5 = .pointer (some ⟨bo, 0, none⟩) ∧ Hid (Fr (fun _ => False) W0 wx) ∧ Hid (wx.heap[bo]? = some (.cells #[.slice B1 L q1, .slice B2 L q2] 89 (0, 0))) ∧ Hid (wx.ownsRow 0 5 1 (.slice B1 L q1) L (bytesV t.s)) ∧ Hid (wx.ownsRow 0 3 1 (.slice B2 L q2) L (intsV t.c)) ∧ Hid (W0.heap.size ≤ bo) ∧ Hid (∀ k, (Value.slice B1 L q1).ownBlock = some k → W0.heap.size ≤ k) ∧ Hid (∀ k, (Value.slice B2 L q2).ownBlock = some k → W0.heap.size ≤ k))
  case first =>
    as_aux_lemma =>
      go_region_held3 (fun w' => w'.cell? ⟨Z, 0, none⟩ = some (.slice A1 L k1) ∧ w'.cell? ⟨Z, 1, none⟩ = some (.slice A2 L k2)) (first | with_reducible exact ⟨Fr.cell_ (S := fun _ => False) ((((Fr.refl _ W0).alloc _).alloc _).alloc _).drew c0 (fun h => h), Fr.cell_ (S := fun _ => False) ((((Fr.refl _ W0).alloc _).alloc _).alloc _).drew c1 (fun h => h)⟩ | go_keep) (first
      | ((refine step_append_all (o := ⟨some 11, _, _, _, _, _⟩) _ (by rfl) _ _ 26 (by rfl) 0 5 i0 (.int .u8 0) 1 1 Try.underlying26 Hi.out Hz0.out Hz1.out Hz2.out rfl (by decide) (.slice (some ⟨_, 0, none⟩) 0 0) 0 [] (by rfl) (own_made (by first | with_reducible exact nw1 W0 _ | with_reducible exact nw2a W0 _ _ | with_reducible exact nw2b W0 _ _ | with_reducible exact nw3a W0 _ _ _ | with_reducible exact nw3b W0 _ _ _ | with_reducible exact nw3c W0 _ _ _)) A1 L k1 (bytesV t.s) (by rfl) Hl1.out (own_news (own_keep (S := fun _ => False) Hos.out (by repeat (first | refine Fr.drew ?_ | refine Fr.alloc ?_ _ | exact Fr.refl _ _)) (fun _ _ h => h))) (by simp [bytesV, Value.oneCell']) H1.out H2.out (Nat.zero_le _) ?_; intro B1 q1 w1 hap; have hf1 : Fr (fun _ => False) W0 w1 := Fr.trans (S := fun _ => False) (by repeat (first | refine Fr.drew ?_ | refine Fr.alloc ?_ _ | exact Fr.refl _ _)) hap.fr (fun k hk => .inr (by simp [Value.ownBlock] at hk; omega)); have HF1 := Lib.hid hf1; have Hap := Lib.hid hap; have Hfoot1 : Hid (∀ k, (Value.slice B1 (0 + L) q1).ownBlock = some k → W0.heap.size ≤ k) := (fun k hk => (hap.foot k hk).elim (fun h => (by simp [Value.ownBlock] at h; omega)) (fun h => (by have h2 : _ ≤ k := h; (try simp at h2); omega))); have d0 := hf1.cell_ c0 (fun h => h); have d1 := hf1.cell_ c1 (fun h => h); have Hz1b : Hid (W0.heap.size ≤ w1.heap.size) := hf1.size; have hz1c : Z < w1.heap.size := Nat.lt_of_lt_of_le hzl hf1.size; have hz1e := hap.fr.size; simp at hz1e; have hz1d : Z < w1.heap.size + 1 := Nat.lt_succ_of_lt hz1c; clear hap hf1))
      | ((refine step_append_all (o := ⟨some 15, _, _, _, _, _⟩) _ (by rfl) _ _ 87 (by rfl) 0 3 i3 (.int .i64 0) 1 8 Try.underlying87 Ki.out Kz0.out Kz1.out Kz2.out rfl (by decide) (.slice (some ⟨_, 0, none⟩) 0 0) 0 [] (by rfl) (own_made (by first | with_reducible exact nx1 w1 _ | with_reducible exact nx2a w1 _ _ | with_reducible exact nx2b w1 _ _ | with_reducible exact Hap.out.fr.keep (nw1 W0 _) (by simp [Value.ownBlock] <;> omega) | with_reducible exact block_alloc (Hap.out.fr.keep (nw1 W0 _) (by simp [Value.ownBlock] <;> omega)) | with_reducible exact Hap.out.fr.keep (nw2a W0 _ _) (by simp [Value.ownBlock] <;> omega) | with_reducible exact block_alloc (Hap.out.fr.keep (nw2a W0 _ _) (by simp [Value.ownBlock] <;> omega)) | with_reducible exact Hap.out.fr.keep (nw2b W0 _ _) (by simp [Value.ownBlock] <;> omega) | with_reducible exact block_alloc (Hap.out.fr.keep (nw2b W0 _ _) (by simp [Value.ownBlock] <;> omega)) | with_reducible exact Hap.out.fr.keep (nw3a W0 _ _ _) (by simp [Value.ownBlock] <;> omega) | with_reducible exact block_alloc (Hap.out.fr.keep (nw3a W0 _ _ _) (by simp [Value.ownBlock] <;> omega)) | with_reducible exact Hap.out.fr.keep (nw3b W0 _ _ _) (by simp [Value.ownBlock] <;> omega) | with_reducible exact block_alloc (Hap.out.fr.keep (nw3b W0 _ _ _) (by simp [Value.ownBlock] <;> omega)) | with_reducible exact Hap.out.fr.keep (nw3c W0 _ _ _) (by simp [Value.ownBlock] <;> omega) | with_reducible exact block_alloc (Hap.out.fr.keep (nw3c W0 _ _ _) (by simp [Value.ownBlock] <;> omega)))) A2 L k2 (intsV t.c) (by rfl) Hl2.out (own_news (own_keep (S := fun _ => False) Hoc.out (Fr.trans (T := fun _ => False) HF1.out (by repeat (first | refine Fr.drew ?_ | refine Fr.alloc ?_ _ | exact Fr.refl _ _)) (fun _ h => h.elim)) (fun _ _ h => h))) (by simp [intsV, Value.oneCell']) H1.out H3.out (Nat.zero_le _) ?_; intro B2 q2 w2 hap2; have hF2 : Fr (fun _ => False) W0 w2 := Fr.trans (S := fun _ => False) HF1.out (Fr.trans (S := fun k => W0.heap.size ≤ k) (T := fun k => W0.heap.size ≤ k) (by repeat (first | refine Fr.drew ?_ | refine Fr.alloc ?_ _ | exact Fr.refl _ _)) (hap2.fr.mono (fun k hk => .inl (by simp [Value.ownBlock] at hk; have := Hz1b.out; omega))) (fun k hk => .inl hk)) (fun k hk => .inr hk); have hzw2 : Z < w2.heap.size := Nat.lt_of_lt_of_le hzl hF2.size; have e0 := hF2.cell_ c0 (fun h => h); have e1 := hF2.cell_ c1 (fun h => h); (try (refine (fun (hq : w2.heap[W0.heap.size]? = some (.cells #[.slice none 0 0, .slice none 0 0] 89 (0, 0))) => ?_) ?_; rotate_left; (focus (refine hap2.fr.keep ?_ ?_; (focus (first | with_reducible exact Hap.out.fr.keep (nw1 W0 _) (by simp [Value.ownBlock] <;> omega) | with_reducible exact block_alloc (Hap.out.fr.keep (nw1 W0 _) (by simp [Value.ownBlock] <;> omega)) | with_reducible exact Hap.out.fr.keep (nw2a W0 _ _) (by simp [Value.ownBlock] <;> omega) | with_reducible exact block_alloc (Hap.out.fr.keep (nw2a W0 _ _) (by simp [Value.ownBlock] <;> omega)) | with_reducible exact Hap.out.fr.keep (nw3a W0 _ _ _) (by simp [Value.ownBlock] <;> omega) | with_reducible exact block_alloc (Hap.out.fr.keep (nw3a W0 _ _ _) (by simp [Value.ownBlock] <;> omega)))); (focus (simp [Value.ownBlock] <;> omega)))); have m0a := cell_of hq 0; have m0b := cell_of hq 1; have m0c := free_of hq 0; have m0d := free_of hq 1; simp at m0a m0b; have Hm0q := Lib.hid hq; clear hq)); (try (refine (fun (hq : w2.heap[W0.heap.size + 1]? = some (.cells #[.slice none 0 0, .slice none 0 0] 89 (0, 0))) => ?_) ?_; rotate_left; (focus (refine hap2.fr.keep ?_ ?_; (focus (first | with_reducible exact Hap.out.fr.keep (nw2b W0 _ _) (by simp [Value.ownBlock] <;> omega) | with_reducible exact block_alloc (Hap.out.fr.keep (nw2b W0 _ _) (by simp [Value.ownBlock] <;> omega)) | with_reducible exact Hap.out.fr.keep (nw3b W0 _ _ _) (by simp [Value.ownBlock] <;> omega) | with_reducible exact block_alloc (Hap.out.fr.keep (nw3b W0 _ _ _) (by simp [Value.ownBlock] <;> omega)))); (focus (simp [Value.ownBlock] <;> omega)))); have m1a := cell_of hq 0; have m1b := cell_of hq 1; have m1c := free_of hq 0; have m1d := free_of hq 1; simp at m1a m1b; have Hm1q := Lib.hid hq; clear hq)); (try (refine (fun (hq : w2.heap[W0.heap.size + 1 + 1]? = some (.cells #[.slice none 0 0, .slice none 0 0] 89 (0, 0))) => ?_) ?_; rotate_left; (focus (refine hap2.fr.keep ?_ ?_; (focus (first | with_reducible exact Hap.out.fr.keep (nw3c W0 _ _ _) (by simp [Value.ownBlock] <;> omega) | with_reducible exact block_alloc (Hap.out.fr.keep (nw3c W0 _ _ _) (by simp [Value.ownBlock] <;> omega)))); (focus (simp [Value.ownBlock] <;> omega)))); have m2a := cell_of hq 0; have m2b := cell_of hq 1; have m2c := free_of hq 0; have m2d := free_of hq 1; simp at m2a m2b; have Hm2q := Lib.hid hq; clear hq)); (try (refine (fun (hq : w2.heap[w1.heap.size]? = some (.cells #[.slice none 0 0, .slice none 0 0] 89 (0, 0))) => ?_) ?_; rotate_left; (focus (refine hap2.fr.keep ?_ ?_; (focus (first | with_reducible exact nx1 w1 _ | with_reducible exact nx2a w1 _ _)); (focus (simp [Value.ownBlock] <;> omega)))); have n0a := cell_of hq 0; have n0b := cell_of hq 1; have n0c := free_of hq 0; have n0d := free_of hq 1; simp at n0a n0b; have Hn0q := Lib.hid hq; clear hq)); (try (refine (fun (hq : w2.heap[w1.heap.size + 1]? = some (.cells #[.slice none 0 0, .slice none 0 0] 89 (0, 0))) => ?_) ?_; rotate_left; (focus (refine hap2.fr.keep ?_ ?_; (focus (first | with_reducible exact nx2b w1 _ _)); (focus (simp [Value.ownBlock] <;> omega)))); have n1a := cell_of hq 0; have n1b := cell_of hq 1; have n1c := free_of hq 0; have n1d := free_of hq 1; simp at n1a n1b; have Hn1q := Lib.hid hq; clear hq)); have z0 : Z ≠ W0.heap.size := (by have := hF2.size; have := Hz1b.out; have := hzw2; omega); have y0 : W0.heap.size ≠ Z := Ne.symm z0; have z1 : Z ≠ W0.heap.size + 1 := (by have := hF2.size; have := Hz1b.out; have := hzw2; omega); have y1 : W0.heap.size + 1 ≠ Z := Ne.symm z1; have z2 : Z ≠ W0.heap.size + 1 + 1 := (by have := hF2.size; have := Hz1b.out; have := hzw2; omega); have y2 : W0.heap.size + 1 + 1 ≠ Z := Ne.symm z2; have z3 : Z ≠ w1.heap.size := (by have := hF2.size; have := Hz1b.out; have := hzw2; omega); have y3 : w1.heap.size ≠ Z := Ne.symm z3; have z4 : Z ≠ w1.heap.size + 1 := (by have := hF2.size; have := Hz1b.out; have := hzw2; omega); have y4 : w1.heap.size + 1 ≠ Z := Ne.symm z4; have z5 : Z ≠ w2.heap.size := (by have := hF2.size; have := Hz1b.out; have := hzw2; omega); have y5 : w2.heap.size ≠ Z := Ne.symm z5; have Hfoot2 : Hid (∀ k, (Value.slice B2 (0 + L) q2).ownBlock = some k → W0.heap.size ≤ k) := (fun k hk => (hap2.foot k hk).elim (fun h => (by simp [Value.ownBlock] at h; have := Hz1b.out; omega)) (fun h => (by have h2 : _ ≤ k := h; (try simp at h2); have := Hz1b.out; omega))); have Hown2 := Lib.hid hap2.own; have Hown1 : Hid (w2.ownsRow 0 5 1 (.slice B1 (0 + L) q1) (0 + L) ([] ++ bytesV t.s)) := own1_keep Hap.out.own (Fr.trans (S := fun _ => False) (T := fun _ => False) (Fr.refl _ w1) (by repeat (first | refine Fr.drew ?_ | refine Fr.alloc ?_ _ | exact Fr.refl _ _)) (fun _ h => h.elim)) hap2.fr (by first | with_reducible exact nx1 w1 _ | with_reducible exact nx2a w1 _ _ | with_reducible exact nx2b w1 _ _ | with_reducible exact Hap.out.fr.keep (nw1 W0 _) (by simp [Value.ownBlock] <;> omega) | with_reducible exact block_alloc (Hap.out.fr.keep (nw1 W0 _) (by simp [Value.ownBlock] <;> omega)) | with_reducible exact Hap.out.fr.keep (nw2a W0 _ _) (by simp [Value.ownBlock] <;> omega) | with_reducible exact block_alloc (Hap.out.fr.keep (nw2a W0 _ _) (by simp [Value.ownBlock] <;> omega)) | with_reducible exact Hap.out.fr.keep (nw2b W0 _ _) (by simp [Value.ownBlock] <;> omega) | with_reducible exact block_alloc (Hap.out.fr.keep (nw2b W0 _ _) (by simp [Value.ownBlock] <;> omega)) | with_reducible exact Hap.out.fr.keep (nw3a W0 _ _ _) (by simp [Value.ownBlock] <;> omega) | with_reducible exact block_alloc (Hap.out.fr.keep (nw3a W0 _ _ _) (by simp [Value.ownBlock] <;> omega)) | with_reducible exact Hap.out.fr.keep (nw3b W0 _ _ _) (by simp [Value.ownBlock] <;> omega) | with_reducible exact block_alloc (Hap.out.fr.keep (nw3b W0 _ _ _) (by simp [Value.ownBlock] <;> omega)) | with_reducible exact Hap.out.fr.keep (nw3c W0 _ _ _) (by simp [Value.ownBlock] <;> omega) | with_reducible exact block_alloc (Hap.out.fr.keep (nw3c W0 _ _ _) (by simp [Value.ownBlock] <;> omega))); have HF2 := Lib.hid hF2; clear hap2 hF2)))
      all_goals go_wp2
      all_goals go_meet
      all_goals have own1 := Hown1.out
      all_goals have own2 := Hown2.out
      all_goals have ft1 := Hfoot1.out
      all_goals have ft2 := Hfoot2.out
      all_goals rw [Nat.zero_add, List.nil_append] at own1 own2
      all_goals rw [Nat.zero_add] at ft1 ft2
      all_goals first | exact fin6 ft1 ft2 (rel_alloc HF2.out own1 own2) (Fr.size HF2.out) | exact fin6 ft1 ft2 (rel_store Hm0q.out HF2.out own1 own2 (Nat.le_refl _)) (Nat.le_refl _) | exact fin6 ft1 ft2 (rel_store Hm1q.out HF2.out own1 own2 (Nat.le_succ _)) (Nat.le_succ _) | exact fin6 ft1 ft2 (rel_store Hm2q.out HF2.out own1 own2 (Nat.le_trans (Nat.le_succ _) (Nat.le_succ _))) (Nat.le_trans (Nat.le_succ _) (Nat.le_succ _)) | exact fin6 ft1 ft2 (rel_store Hn0q.out HF2.out own1 own2 (Hz1b.out)) (Hz1b.out) | exact fin6 ft1 ft2 (rel_store Hn1q.out HF2.out own1 own2 (Nat.le_trans Hz1b.out (Nat.le_succ _))) (Nat.le_trans Hz1b.out (Nat.le_succ _))
  case rest =>
    obtain ⟨bo, B1, q1, B2, q2, rfl, GF, Gb, G1, G2, Gbo, Gf1, Gf2⟩ := hcut
    obtain ⟨Z0, hZ0⟩ : ∃ n, W0.heap.size = n := ⟨_, rfl⟩
    rw [hZ0] at Gbo Gf1 Gf2 hzl
    have hQ : QabAt wc bo t (.slice B1 L q1) (.slice B2 L q2) := ⟨Gb.out, by rw [HL.out]; exact G1.out, by rw [Hcl.out, HL.out]; exact G2.out⟩
    have hat := ref_at B1 q1 (.slice B2 L q2) t x wc (by rw [HL.out]; exact G1.out) rfl (by rw [HL.out]; omega)
    rw [HL.out, HB.out] at hat
    have HAt := Lib.hid hat
    have HQ0 := Lib.hid hQ
    have hcc := hQ.cells
    obtain ⟨c0, c1, f0, f1⟩ := hcc
    have hbr : wc.heap[Z + 1]? = some (.cells #[.slice none 0 0, .slice none 0 0] 89 (0, 0)) := GF.out.keep Hbr.out (fun x => x)
    have Hbr2 := Lib.hid hbr
    have hzz : Z + 1 < Z0 := by rw [← hZ0]; exact lt_of_block Hbr.out
    have HZ0 := Lib.hid hZ0
    clear hat hQ hbr hzl1 hzl2
    go_upto_region 3 with (go_at_call 78; refine HAt.out.mono ?_; rintro e wd ⟨rfl, h⟩; have HFd := Lib.hid (GF.out.trans h (fun _ h => .inl h)); have HQ := Lib.hid (HQ0.out.keep h (fun _ _ x => x)); have Hbd := Lib.hid (h.keep Hbr2.out (fun x => x)); clear h)
    clear c0 c1 f0 f1 HAt HQ0 Hbr2 GF Gb G1 G2
    have hft : ∀ k, tabFoot bo (.slice B1 L q1) (.slice B2 L q2) k → Z0 ≤ k := by
      rintro k (rfl | hk | hk)
      · exact Gbo.out
      · exact Gf1.out k hk
      · exact Gf2.out k hk
    have Hft := Lib.hid hft
    obtain ⟨c0, c1, f0, f1⟩ := HQ.out.cells
    have hos := HQ.out.s
    have hoc := HQ.out.c
    have hblk := HQ.out.blk
    rw [HL.out] at hos
    rw [Hcl.out, HL.out] at hoc
    have hpl : bo < wd.heap.size := lt_of_block hblk
    have hZd : Z0 ≤ wd.heap.size := by have := HFd.out.size; have := HZ0.out; omega
    have HZd := Lib.hid hZd
    clear hft hZd
    by_cases hx : t.s.idxOf x < L
    · have hav : atV t x = ((t.s.idxOf x : Nat) : Int) := by unfold atV; rw [if_pos (by rw [HL.out]; exact hx)]
      rw [hav]
      have hkeep := Fq.T.add_keep (t := t) (x := x) (by rw [HL.out]; exact hx) Hcl.out
      have hhalf := Fq.T.add_half (t := t) (x := x) (by rw [HL.out]; exact hx) Hcl.out
      have hpos := HOk.out.pos (t.s.idxOf x) (by rw [Hcl.out, HL.out]; exact hx)
      have hset := fun c : Nat => HQ.out
      obtain ⟨g, cap, hv⟩ := own_slice hoc (by omega)
      injection hv with hv1 hv2 hv3
      subst hv1
      clear hv2 hv3 hset
      obtain ⟨i, hi⟩ : ∃ i, t.s.idxOf x = i := ⟨_, rfl⟩
      rw [hi] at hx hpos hkeep hhalf ⊢
      obtain ⟨c, hc⟩ : ∃ c, t.c.getD i 0 = c := ⟨_, rfl⟩
      rw [hc] at hpos hkeep hhalf
      have hset := HQ.out.setc (by rw [Hcl.out, HL.out]) i (c + 1)
      have hce : wd.cell? ⟨g, i, none⟩ = some (.int .i64 (c : Int)) := by
        rw [World.ownsRow.cellAt hoc i (by omega), intsV_get (by rw [Hcl.out, HL.out]; omega), hc]
      have hfz := World.ownsRow.frozenAt hoc i
      obtain ⟨cur, hty⟩ := own_ty hoc (g := g) rfl
      have hpg : bo ≠ g := ne_of_ty hblk hty (by decide)
      have hzg : Z + 1 ≠ g := by have := Hft.out g (.inr (.inr rfl)); omega
      have hin : (i : Int) < (L : Int) := by omega
      have hci : (c : Int) ≤ 120 := by omega
      have hc1 : (1 : Int) ≤ (c : Int) := by omega
      have hi0 : (0 : Int) ≤ (i : Int) := by omega
      rw [show (((c + 1 : Nat)) : Int) = (c : Int) + 1 by omega] at hset
      have hbd : ∀ k, (t.c.set i (c + 1)).getD k 0 ≤ 100000 := by
        intro k
        by_cases hki : i = k
        · subst hki
          rw [Fq.getD_set_self _ _ _ (by rw [Hcl.out, HL.out]; omega)]; omega
        · rw [Fq.getD_set_ne _ _ _ _ hki]
          by_cases hkl : k < t.c.length
          · have := (HOk.out.pos k hkl).2; omega
          · rw [List.getD_eq_getElem?_getD, List.getElem?_eq_none (by omega)]; simp
      have Hbd2 := Lib.hid hbd
      have Hset := Lib.hid hset
      have Hkeep := Lib.hid hkeep
      have Hhalf := Lib.hid hhalf
      have HZg := Lib.hid hzg
      clear hav hkeep hhalf hpos hset hty hbd hc hi hx hoc hos hblk hzg
      obtain ⟨V, hV⟩ : ∃ V, wd.setCell ⟨g, i, none⟩ (.int .i64 ((c : Int) + 1)) = V := ⟨_, rfl⟩
      rw [hV] at Hset
      have hownV := Hset.out.1.c
      dsimp only at hownV
      rw [List.length_set, Hcl.out, HL.out] at hownV
      have hVc : V.cell? ⟨g, i, none⟩ = some (.int .i64 ((c : Int) + 1)) := by
        rw [World.ownsRow.cellAt hownV i (by omega), intsV_get (by rw [List.length_set, Hcl.out, HL.out]; omega), Fq.getD_set_self _ _ _ (by rw [Hcl.out, HL.out]; omega)]
        rfl
      clear hownV
      have hFV : Fr (fun k => Z0 ≤ k) W0 V := (HFd.out.mono (fun _ h => h.elim)).trans (Hset.out.2.mono (fun k hk => .inl (Hft.out k hk))) (fun _ h => .inl h)
      have hbz : V.heap[Z + 1]? = some (.cells #[.slice none 0 0, .slice none 0 0] 89 (0, 0)) := by rw [← hV]; exact block_setCell_other Hbd.out HZg.out _
      have HV := Lib.hid hV
      have HVF := Lib.hid hFV
      have Hbz := Lib.hid hbz
      clear hV hFV hbz
      go_upto_region 7 with fail
      rw [HV.out]
      clear hce hfz c0 c1 f0 f1
      obtain ⟨c0, c1, f0, f1⟩ := Hset.out.1.cells
      have r0 : V.cell? ⟨Z + 1, 0, none⟩ = some (.slice none 0 0) := (cell_of Hbz.out 0).trans rfl
      have r1 : V.cell? ⟨Z + 1, 1, none⟩ = some (.slice none 0 0) := (cell_of Hbz.out 1).trans rfl
      have rf0 := free_of Hbz.out 0
      have rf1 := free_of Hbz.out 1
      by_cases hle : c + 1 ≤ 120
      · have hlei : ¬ (120 : Int) < (c : Int) + 1 := by omega
        have hTA2 := Hkeep.out hle
        rw [HTA.out] at hTA2
        have HTA2 := Lib.hid hTA2
        clear hle hTA2
        have hQ2 := Hset.out.1
        have HQ2 := Lib.hid hQ2
        clear hQ2
        go_wp2
        refine bodyPost_ret (v := .agg #[.slice B1 L q1, .slice (some ⟨g, 0, none⟩) L q2]) ?_ rfl ?_
        · simp [results, Try.results50, go_sem, r0, r1]
        · rw [← HTA2.out] at HQ2
          exact q_end HWs.out HZw.out hzz HF0.out HVF.out HQ2.out (by rw [HTA2.out]; exact HL.out) (by rw [HTA2.out]; show (t.c.set i (c + 1)).length = L; rw [List.length_set, Hcl.out]; exact HL.out) Hft.out _ _
      · have hlei : (120 : Int) < (c : Int) + 1 := by omega
        have hTA2 := Hhalf.out hle
        rw [HTA.out] at hTA2
        clear hle r0 r1 rf0 rf1
        obtain ⟨C, hC⟩ : ∃ C, t.c.set i (c + 1) = C := ⟨_, rfl⟩
        have hCl : C.length = L := by rw [← hC, List.length_set, Hcl.out]; exact HL.out
        rw [hC] at Hset Hbd2 hTA2
        have HCl := Lib.hid hCl
        have HTA2 := Lib.hid hTA2
        clear hC hCl hTA2
        have hn0 : (0 : Int) ≤ (L : Int) := by omega
        go_upto_region 9 with fail
        go_wp2
        go_loopw [7] (fun v7 wr => ∃ k : Nat, k ≤ L ∧ v7 = .int .i64 (k : Int) ∧ Hid (QabAt wr bo ⟨t.s, Fq.halfTo C k⟩ (.slice B1 L q1) (.slice (some ⟨g, 0, none⟩) L q2)) ∧ Hid (Fr (fun k => Z0 ≤ k) W0 wr) ∧ Hid (wr.heap[Z + 1]? = some (.cells #[.slice none 0 0, .slice none 0 0] 89 (0, 0)))) (fun v7 _ => L - (intOf v7).toNat)
        case atStart => exact ⟨0, Nat.zero_le _, rfl, by rw [Fq.halfTo_none]; exact Hset.out.1, HVF, Hbz⟩
        case round =>
          obtain ⟨k, hk, rfl, HT, HF, HZ⟩ := hrel
          clear c0 c1 f0 f1 hVc
          obtain ⟨c0, c1, f0, f1⟩ := HT.out.cells
          by_cases hlt : k < L
          · have hki : (k : Int) < (L : Int) := by omega
            have hk0 : (0 : Int) ≤ (k : Int) := by omega
            have hlen : (Fq.halfTo C k).length = L := by rw [Fq.halfTo_len]; exact HCl.out
            have hown := HT.out.c
            dsimp only at hown
            rw [hlen] at hown
            obtain ⟨y, hy⟩ : ∃ y, C.getD k 0 = y := ⟨_, rfl⟩
            have hce : wr.cell? ⟨g, k, none⟩ = some (.int .i64 (y : Int)) := by
              rw [World.ownsRow.cellAt hown k (by omega), intsV_get (by omega), Fq.halfTo_get C k (by rw [HCl.out]; exact hlt), hy]
            have hfz := World.ownsRow.frozenAt hown k
            have hset := HT.out.setc (by dsimp only; exact hlen.symm) k ((y + 1) / 2)
            dsimp only at hset
            rw [← hy, Fq.halfTo_set C k (by rw [HCl.out]; exact hlt), hy] at hset
            have hyb : y ≤ 100000 := by rw [← hy]; exact Hbd2.out k
            have hyi : (y : Int) ≤ 100000 := by omega
            obtain ⟨y2, hy2⟩ : ∃ y2, (y + 1) / 2 = y2 := ⟨_, rfl⟩
            rw [hy2] at hset
            have ew : IntKind.i64.wrap ((y : Int) + 1) = (y : Int) + 1 := IntWalk.i64_in _ (by omega)
            have eq2 : ((y : Int) + 1).tdiv 2 = (y2 : Int) := by rw [Int.tdiv_eq_ediv_of_nonneg (by omega)]; omega
            have eq3 : ((y : Int) + 1) / 2 = (y2 : Int) := by omega
            have ew2 : IntKind.i64.wrap (y2 : Int) = (y2 : Int) := IntWalk.i64_in _ (by omega)
            have HT2 := Lib.hid hset.1
            have HF2 := Lib.hid (HF.out.trans hset.2 (fun k hk => .inl (Hft.out k hk)))
            have HZ2 := Lib.hid (block_setCell_other HZ.out HZg.out (.int .i64 (y2 : Int)) (off := k))
            clear hlen hown hy hset hyb hy2
            go_upto_region 11 with fail
            go_region
            all_goals go_wp2
            all_goals go_roundw
            all_goals first
              | exact ⟨k + 1, by omega, by go_num, HT2.out.keep (Fr.refl (fun _ => False) _).drew (fun _ _ x => x), HF2.out.drew, HZ2⟩
              | (simp [intOf]; omega)
          · obtain rfl : k = L := by omega
            have hfin := HT.out
            rw [← HCl.out, Fq.halfTo_all] at hfin
            rw [HCl.out, ← HTA2.out] at hfin
            have Hfin := Lib.hid hfin
            have r0 : wr.cell? ⟨Z + 1, 0, none⟩ = some (.slice none 0 0) := (cell_of HZ.out 0).trans rfl
            have r1 : wr.cell? ⟨Z + 1, 1, none⟩ = some (.slice none 0 0) := (cell_of HZ.out 1).trans rfl
            have rf0 := free_of HZ.out 0
            have rf1 := free_of HZ.out 1
            clear hfin hlt hk
            go_wp2
            refine bodyPost_ret (v := .agg #[.slice B1 k q1, .slice (some ⟨g, 0, none⟩) k q2]) ?_ rfl ?_
            · simp [results, Try.results50, go_sem, r0, r1]
            · exact q_end HWs.out HZw.out hzz HF0.out HF.out Hfin.out (by rw [HTA2.out]; exact HL.out) (by rw [HTA2.out]; show (Fq.halve C).length = k; unfold Fq.halve; rw [List.length_map]; exact HCl.out) Hft.out _ _
    · have hav : atV t x = -1 := by unfold atV; rw [if_neg (by rw [HL.out]; exact hx)]
      rw [hav]
      have hnewT := T_add_new (t := t) (x := x) (by rw [HL.out]; exact hx) Hcl.out
      rw [HTA.out] at hnewT
      have HNewT := Lib.hid hnewT
      clear hnewT
      have hne1 : (Value.slice B1 L q1).ownBlock ≠ some bo := fun he => by obtain ⟨cur, hc⟩ := own_ty hos he; exact ne_of_ty hc hblk (by decide) rfl
      have hne2 : (Value.slice B2 L q2).ownBlock ≠ some bo := fun he => by obtain ⟨cur, hc⟩ := own_ty hoc he; exact ne_of_ty hc hblk (by decide) rfl
      have Hos := Lib.hid hos
      have Hoc := Lib.hid hoc
      have Hne1 := Lib.hid hne1
      have Hne2 := Lib.hid hne2
      have Htab := HQ
      have Hb1 : Hid (L + 1 ≤ maxLen) := by show _ ≤ _; unfold maxLen; omega
      have Hb2 : Hid ((L + 1) * 1 ≤ 140737488355328) := by show _ ≤ _; omega
      have Hb3 : Hid ((L + 1) * 8 ≤ 140737488355328) := by show _ ≤ _; omega
      clear hav hx hos hoc hblk hne1 hne2
      go_upto_region 4 with fail
      go_cut [6] (fun v6 wx => v6 = .int .i64 (-1) ∧ ∃ g1 cap1 g2 cap2, Hid (QabAt wx bo ⟨t.s ++ [x], t.c ++ [1]⟩ (.slice (some ⟨g1, 0, none⟩) (L + 1) cap1) (.slice (some ⟨g2, 0, none⟩) (L + 1) cap2)) ∧ Hid (Step wd wx (tabFoot bo (.slice B1 L q1) (.slice B2 L q2)) (tabFoot bo (.slice (some ⟨g1, 0, none⟩) (L + 1) cap1) (.slice (some ⟨g2, 0, none⟩) (L + 1) cap2))))
      case first =>
        as_aux_lemma =>
          go_region_law (first
            | ((refine step_append_my (o := ⟨some 26, _, _, _, _, _⟩) _ (by rfl) _ _ 26 (by rfl) 0 5 i0 (.int .u8 0) 1 1 Try.underlying26 Hi.out Hz0.out Hz1.out Hz2.out rfl (by decide) (.slice B1 L q1) L (bytesV t.s) (by rfl) (own_keep (S := fun _ => False) Hos.out (((Fr.refl _ _).alloc (.cells #[.int .u8 B] 5)).drew) (fun _ _ h => h)) ⟨wd.heap.size, 0, none⟩ 1 1 [.int .u8 B] (by rfl) (by rfl) (news_at (ty := 5) (fr := (0, 0)) (heap_alloc_new wd _)) (by simp [Value.oneCell']) (by decide) Hb1.out Hb2.out (Nat.zero_le _) _ rfl ?_; intro g1 cap1 w1 hown1 hgrow hat hlt hsame; have hF1 : Fr (fun k => (Value.slice B1 L q1).ownBlock = some k) wd w1 := Fr.grown (Fr.mono (S := fun _ => False) (((Fr.refl _ _).alloc (.cells #[.int .u8 B] 5)).drew) (fun _ h => h.elim)) hgrow (fun k hk => .inl hk); have HF1 := Lib.hid hF1; rw [← HB.out] at hown1; have Hown1 := Lib.hid hown1; have hg1 : (Value.slice B1 L q1).ownBlock = some g1 ∨ wd.heap.size ≤ g1 := hat.imp id (fun h => (by rw [h]; simp <;> omega)); have Hg1 := Lib.hid hg1; have hpl1 : bo < w1.heap.size := Nat.lt_of_lt_of_le hpl hF1.size; have d0 := hF1.cell_ c0 Hne1.out; have d1 := hF1.cell_ c1 Hne1.out; have Hoc1 : Hid (w1.ownsRow 0 3 1 (.slice B2 L q2) L (intsV t.c)) := own_keep Hoc.out hF1 (fun k hk hk2 => apart53 Hos.out Hoc.out hk2 hk);  clear hown1 hgrow hat hlt hsame hF1 hg1))
            | ((refine step_append_my (o := ⟨some 26, _, _, _, _, _⟩) _ (by rfl) _ _ 26 (by rfl) 0 5 i0 (.int .u8 0) 1 1 Try.underlying26 Hi.out Hz0.out Hz1.out Hz2.out rfl (by decide) (.slice B1 L q1) L (bytesV t.s) (by rfl) (own_keep (S := fun _ => False) Hos.out ((((Fr.refl _ _).alloc (.cells #[.int .u8 B] 5)).alloc (.cells #[.int .i64 1] 3)).drew) (fun _ _ h => h)) ⟨wd.heap.size, 0, none⟩ 1 1 [.int .u8 B] (by rfl) (by rfl) (news_at (ty := 5) (fr := (0, 0)) (block_alloc (heap_alloc_new wd _))) (by simp [Value.oneCell']) (by decide) Hb1.out Hb2.out (Nat.zero_le _) _ rfl ?_; intro g1 cap1 w1 hown1 hgrow hat hlt hsame; have hF1 : Fr (fun k => (Value.slice B1 L q1).ownBlock = some k) wd w1 := Fr.grown (Fr.mono (S := fun _ => False) ((((Fr.refl _ _).alloc (.cells #[.int .u8 B] 5)).alloc (.cells #[.int .i64 1] 3)).drew) (fun _ h => h.elim)) hgrow (fun k hk => .inl hk); have HF1 := Lib.hid hF1; rw [← HB.out] at hown1; have Hown1 := Lib.hid hown1; have hg1 : (Value.slice B1 L q1).ownBlock = some g1 ∨ wd.heap.size ≤ g1 := hat.imp id (fun h => (by rw [h]; simp <;> omega)); have Hg1 := Lib.hid hg1; have hpl1 : bo < w1.heap.size := Nat.lt_of_lt_of_le hpl hF1.size; have d0 := hF1.cell_ c0 Hne1.out; have d1 := hF1.cell_ c1 Hne1.out; have Hoc1 : Hid (w1.ownsRow 0 3 1 (.slice B2 L q2) L (intsV t.c)) := own_keep Hoc.out hF1 (fun k hk hk2 => apart53 Hos.out Hoc.out hk2 hk); have Hn2 : Hid (w1.heap[wd.heap.size + 1]? = some (.cells #[.int .i64 1] 3 (0, 0))) := grown_keep hgrow (own_keep (S := fun _ => False) Hos.out ((((Fr.refl _ _).alloc (.cells #[.int .u8 B] 5)).alloc (.cells #[.int .i64 1] 3)).drew) (fun _ _ h => h)) (two_new wd (.cells #[.int .u8 B] 5) (.cells #[.int .i64 1] 3)) (by decide); clear hown1 hgrow hat hlt hsame hF1 hg1))
            | ((refine step_append_my (o := ⟨some 26, _, _, _, _, _⟩) _ (by rfl) _ _ 26 (by rfl) 0 5 i0 (.int .u8 0) 1 1 Try.underlying26 Hi.out Hz0.out Hz1.out Hz2.out rfl (by decide) (.slice B1 L q1) L (bytesV t.s) (by rfl) (own_keep (S := fun _ => False) Hos.out ((((Fr.refl _ _).alloc (.cells #[.int .i64 1] 3)).alloc (.cells #[.int .u8 B] 5)).drew) (fun _ _ h => h)) ⟨(wd.heap.size + 1), 0, none⟩ 1 1 [.int .u8 B] (by rfl) (by rfl) (news_at (ty := 5) (fr := (0, 0)) (two_new wd _ _)) (by simp [Value.oneCell']) (by decide) Hb1.out Hb2.out (Nat.zero_le _) _ rfl ?_; intro g1 cap1 w1 hown1 hgrow hat hlt hsame; have hF1 : Fr (fun k => (Value.slice B1 L q1).ownBlock = some k) wd w1 := Fr.grown (Fr.mono (S := fun _ => False) ((((Fr.refl _ _).alloc (.cells #[.int .i64 1] 3)).alloc (.cells #[.int .u8 B] 5)).drew) (fun _ h => h.elim)) hgrow (fun k hk => .inl hk); have HF1 := Lib.hid hF1; rw [← HB.out] at hown1; have Hown1 := Lib.hid hown1; have hg1 : (Value.slice B1 L q1).ownBlock = some g1 ∨ wd.heap.size ≤ g1 := hat.imp id (fun h => (by rw [h]; simp <;> omega)); have Hg1 := Lib.hid hg1; have hpl1 : bo < w1.heap.size := Nat.lt_of_lt_of_le hpl hF1.size; have d0 := hF1.cell_ c0 Hne1.out; have d1 := hF1.cell_ c1 Hne1.out; have Hoc1 : Hid (w1.ownsRow 0 3 1 (.slice B2 L q2) L (intsV t.c)) := own_keep Hoc.out hF1 (fun k hk hk2 => apart53 Hos.out Hoc.out hk2 hk); have Hn2 : Hid (w1.heap[wd.heap.size]? = some (.cells #[.int .i64 1] 3 (0, 0))) := grown_keep hgrow (own_keep (S := fun _ => False) Hos.out ((((Fr.refl _ _).alloc (.cells #[.int .i64 1] 3)).alloc (.cells #[.int .u8 B] 5)).drew) (fun _ _ h => h)) (block_alloc (heap_alloc_new wd _)) (by decide); clear hown1 hgrow hat hlt hsame hF1 hg1))
            | ((refine step_append_my (o := ⟨some 30, _, _, _, _, _⟩) _ (by rfl) _ _ 87 (by rfl) 0 3 i3 (.int .i64 0) 1 8 Try.underlying87 Ki.out Kz0.out Kz1.out Kz2.out rfl (by decide) (.slice B2 L q2) L (intsV t.c) (by rfl) (own_keep (S := fun _ => False) Hoc1.out (Fr.refl _ w1) (fun _ _ h => h)) ⟨(wd.heap.size + 1), 0, none⟩ 1 1 [.int .i64 1] (by rfl) (by rfl) (news_at (ty := 3) (fr := (0, 0)) (Hn2.out)) (by simp [Value.oneCell']) (by decide) Hb1.out Hb3.out (Nat.zero_le _) _ rfl ?_; intro g2 cap2 w2 hown2 hgrow hat hlt hsame; have hF2 : Fr (fun k => (Value.slice B2 L q2).ownBlock = some k) w1 w2 := Fr.grown (Fr.mono (S := fun _ => False) (Fr.refl _ w1) (fun _ h => h.elim)) hgrow (fun k hk => .inl hk); have hg2 : (Value.slice B2 L q2).ownBlock = some g2 ∨ wd.heap.size ≤ g2 := hat.imp id (fun h => (by rw [h]; have := HF1.out.size; simp <;> omega)); have HP := Lib.hid (q_push Htab.out HF1.out Hown1.out Hg1.out hF2 hown2 hg2); have e0 := hF2.cell_ d0 Hne2.out; have e1 := hF2.cell_ d1 Hne2.out; have k0 := hF2.frozen_ d0 (HF1.out.frozen_ c0 f0 Hne1.out) Hne2.out; have k1 := hF2.frozen_ d0 (HF1.out.frozen_ c0 f1 Hne1.out) Hne2.out; clear hown2 hgrow hat hlt hsame hF2 hg2))
            | ((refine step_append_my (o := ⟨some 30, _, _, _, _, _⟩) _ (by rfl) _ _ 87 (by rfl) 0 3 i3 (.int .i64 0) 1 8 Try.underlying87 Ki.out Kz0.out Kz1.out Kz2.out rfl (by decide) (.slice B2 L q2) L (intsV t.c) (by rfl) (own_keep (S := fun _ => False) Hoc1.out (Fr.refl _ w1) (fun _ _ h => h)) ⟨wd.heap.size, 0, none⟩ 1 1 [.int .i64 1] (by rfl) (by rfl) (news_at (ty := 3) (fr := (0, 0)) (Hn2.out)) (by simp [Value.oneCell']) (by decide) Hb1.out Hb3.out (Nat.zero_le _) _ rfl ?_; intro g2 cap2 w2 hown2 hgrow hat hlt hsame; have hF2 : Fr (fun k => (Value.slice B2 L q2).ownBlock = some k) w1 w2 := Fr.grown (Fr.mono (S := fun _ => False) (Fr.refl _ w1) (fun _ h => h.elim)) hgrow (fun k hk => .inl hk); have hg2 : (Value.slice B2 L q2).ownBlock = some g2 ∨ wd.heap.size ≤ g2 := hat.imp id (fun h => (by rw [h]; have := HF1.out.size; simp <;> omega)); have HP := Lib.hid (q_push Htab.out HF1.out Hown1.out Hg1.out hF2 hown2 hg2); have e0 := hF2.cell_ d0 Hne2.out; have e1 := hF2.cell_ d1 Hne2.out; have k0 := hF2.frozen_ d0 (HF1.out.frozen_ c0 f0 Hne1.out) Hne2.out; have k1 := hF2.frozen_ d0 (HF1.out.frozen_ c0 f1 Hne1.out) Hne2.out; clear hown2 hgrow hat hlt hsame hF2 hg2))
            | ((refine step_append_my (o := ⟨some 30, _, _, _, _, _⟩) _ (by rfl) _ _ 87 (by rfl) 0 3 i3 (.int .i64 0) 1 8 Try.underlying87 Ki.out Kz0.out Kz1.out Kz2.out rfl (by decide) (.slice B2 L q2) L (intsV t.c) (by rfl) (own_keep (S := fun _ => False) Hoc1.out ((Fr.refl _ _).alloc (.cells #[.int .i64 1] 3)) (fun _ _ h => h)) ⟨w1.heap.size, 0, none⟩ 1 1 [.int .i64 1] (by rfl) (by rfl) (news_at (ty := 3) (fr := (0, 0)) (heap_alloc_new w1 _)) (by simp [Value.oneCell']) (by decide) Hb1.out Hb3.out (Nat.zero_le _) _ rfl ?_; intro g2 cap2 w2 hown2 hgrow hat hlt hsame; have hF2 : Fr (fun k => (Value.slice B2 L q2).ownBlock = some k) w1 w2 := Fr.grown (Fr.mono (S := fun _ => False) ((Fr.refl _ _).alloc (.cells #[.int .i64 1] 3)) (fun _ h => h.elim)) hgrow (fun k hk => .inl hk); have hg2 : (Value.slice B2 L q2).ownBlock = some g2 ∨ wd.heap.size ≤ g2 := hat.imp id (fun h => (by rw [h]; have := HF1.out.size; simp <;> omega)); have HP := Lib.hid (q_push Htab.out HF1.out Hown1.out Hg1.out hF2 hown2 hg2); have e0 := hF2.cell_ d0 Hne2.out; have e1 := hF2.cell_ d1 Hne2.out; have k0 := hF2.frozen_ d0 (HF1.out.frozen_ c0 f0 Hne1.out) Hne2.out; have k1 := hF2.frozen_ d0 (HF1.out.frozen_ c0 f1 Hne1.out) Hne2.out; clear hown2 hgrow hat hlt hsame hF2 hg2)))
          all_goals go_wp2
          all_goals go_meet
          all_goals exact ⟨rfl, g1, cap1, g2, cap2, HP.out.1, HP.out.2⟩
      case rest =>
        obtain ⟨rfl, g1, cap1, g2, cap2, HT, HS⟩ := hcut
        have hF : Fr (fun k => Z0 ≤ k) wd wc := HS.out.fr.mono (fun k hk => .inl (Hft.out k hk))
        have hbz := hF.keep Hbd.out (by show ¬ (Z0 ≤ Z + 1); omega)
        obtain ⟨e0, e1, _, _⟩ := HT.out.cells
        have r0 : wc.cell? ⟨Z + 1, 0, none⟩ = some (.slice none 0 0) := (cell_of hbz 0).trans rfl
        have r1 : wc.cell? ⟨Z + 1, 1, none⟩ = some (.slice none 0 0) := (cell_of hbz 1).trans rfl
        have rf0 := free_of hbz 0
        have rf1 := free_of hbz 1
        have Hbz := Lib.hid hbz
        have HF := Lib.hid hF
        clear hbz hF c0 c1 f0 f1 hpl
        go_wp2
        refine bodyPost_ret (v := .agg #[.slice (some ⟨g1, 0, none⟩) (L + 1) cap1, .slice (some ⟨g2, 0, none⟩) (L + 1) cap2]) ?_ rfl ?_
        · simp [results, Try.results50, go_sem, r0, r1]
        · rw [← HNewT.out] at HT
          exact q_end HWs.out HZw.out hzz HF0.out ((HFd.out.mono (fun _ h => h.elim)).trans HF.out (fun _ h => .inl h)) HT.out (by rw [HNewT.out]; simp [HL.out]) (by rw [HNewT.out]; simp [Hcl.out, HL.out]) (fun k hk => (HS.out.foot k hk).elim (Hft.out k) (fun h => Nat.le_trans HZd.out h)) _ _
end Go.Proofs.Ytpddocehjljofaa
