/- FreqPuts: the walk of the law. -/
import Derived.Test.YtpddocehjljofaaFc
import Derived.Test.YtpddocehjljofaaFl
import Derived.Test.YtpddocehjljofaaPu5
namespace Go.Proofs.Ytpddocehjljofaa
set_option linter.unusedVariables false
open Go.RowKit Go.My
attribute [local go_sem ↓] Go.wp_at_zero Go.wp_at_succ

/-- The document's encoder in a block. -/
def refO (b : Nat) (x0 x1 : Value) (a : Rc.A) : Thing := (fun w => w.heap[b]? = some (.cells #[x0, x1] 29 (0, 0)) ∧ RefA w (.agg #[x0, x1]) a, fun k => k = b ∨ x0.ownBlock = some k)
theorem refA_row {w : World} {x0 x1 : Value} {a : Rc.A} (h : RefA w (.agg #[x0, x1]) a) : ∃ (y : Option Addr) (cap : Nat) (L : List UInt8) (S : Nat), w.ownsRow 0 5 1 (.slice y L.length cap) L.length (bytesV L) ∧ x0 = .slice y L.length cap ∧ x1 = .int .u64 (S : Int) ∧ Rc.RelL L S a := by
  obtain ⟨y, cap, L, S, h1, h2, h3⟩ := h.ex
  simp only [Value.agg.injEq, Array.mk.injEq, List.cons.injEq, and_true] at h2
  exact ⟨y, cap, L, S, h1, h2.1, h2.2, h3⟩
theorem refA_keep {w w' : World} {x0 x1 : Value} {a : Rc.A} {T : Nat → Prop} (h : RefA w (.agg #[x0, x1]) a) (hf : Fr T w w') (hs : ∀ k, x0.ownBlock = some k → ¬ T k) : RefA w' (.agg #[x0, x1]) a := by
  obtain ⟨y, cap, L, S, h1, rfl, rfl, h3⟩ := refA_row h
  exact ⟨⟨y, cap, L, S, own_keep h1 hf hs, rfl, h3⟩⟩
theorem refO_ob (b : Nat) (x0 x1 : Value) (a : Rc.A) : Ob (refO b x0 x1 a) := ⟨fun {u v T} h hf hs => ⟨hf.keep h.1 (hs b (.inl rfl)), refA_keep h.2 hf (fun k hk => hs k (.inr hk))⟩, fun {u k} h hk => by
  rcases hk with rfl | hk
  · exact lt_of_block h.1
  · obtain ⟨y, cap, L, S, h1, rfl, rfl, h3⟩ := refA_row h.2
    obtain ⟨cur, hc⟩ := own_ty h1 hk
    exact lt_of_block hc⟩
theorem r_put {w wr w5 : World} {l : List Thing} (h : Own w wr l) (j : Nat) {b : Nat} {x0 x1 y0 y1 : Value} {a a' : Rc.A} (hx : l[j]? = some (refO b x0 x1 a)) (hA : RefA w5 (.agg #[y0, y1]) a') (hf : Fr (fun _ => False) wr w5)
    (hr : ∀ g, rowOf (.agg #[y0, y1]) = some g → rowOf (.agg #[x0, x1]) = some g ∨ wr.heap.size ≤ g) : Own w ((w5.setCell ⟨b, 0, none⟩ y0).setCell ⟨b, 1, none⟩ y1) (l.set j (refO b y0 y1 a')) := by
  have hQ := h.get j hx
  have hb5 := hf.keep hQ.1 (fun x => x)
  have hz : Fr (fun k => k = b) w5 ((w5.setCell ⟨b, 0, none⟩ y0).setCell ⟨b, 1, none⟩ y1) := ((Fr.refl (fun k => k = b) w5).setCell ⟨b, 0, none⟩ _ (.inl rfl)).setCell ⟨b, 1, none⟩ _ (.inl rfl)
  refine h.turn j hx ⟨((hf.mono (fun _ h => h.elim)).trans hz (fun k hk => .inl (.inl hk))), fun k hk => ?_⟩ ⟨block_setCell (block_setCell hb5 _ (off := 0)) _ (off := 1), refA_keep hA hz (fun k hk e => ?_)⟩ (refO_ob _ _ _ _)
  · rcases hk with hk | hk
    · exact .inl (.inl hk)
    · exact (hr k hk).imp .inr id
  · obtain ⟨y, cap, L, S, h1, rfl, rfl, h3⟩ := refA_row hA
    obtain ⟨cur, hc⟩ := own_ty h1 hk
    subst e
    exact ne_of_ty hc hb5 (by decide) rfl
theorem own_rnew {w wr w5 : World} {l : List Thing} (h : Own w wr l) {y0 y1 : Value} (hA : RefA w5 (.agg #[y0, y1]) Rc.A.start) (hf : Fr (fun _ => False) wr w5) (hr : ∀ g, rowOf (.agg #[y0, y1]) = some g → wr.heap.size ≤ g) :
    Own w (w5.alloc (.cells #[y0, y1] 29)) (l ++ [refO w5.heap.size y0 y1 Rc.A.start]) := by
  have hb := heap_alloc_new w5 (.cells #[y0, y1] 29)
  have hf2 : Fr (fun _ => False) w5 (w5.alloc (.cells #[y0, y1] 29)) := (Fr.refl _ w5).alloc _
  refine h.snoc (hf.trans hf2 (fun _ h => h.elim)) ⟨hb, refA_keep hA hf2 (fun _ _ x => x)⟩ (refO_ob _ _ _ _) (fun k hk => ?_)
  rcases hk with rfl | hk
  · exact hf.size
  · exact hr k hk
theorem store_boolsT (w : World) (f : Nat → Bool) : (storeVar 100 ⟨w.heap.size, 0, none⟩ (.agg (boolArr f))).run Try.prog (w.alloc (.cells Try.zeroCells100 100)) = .ok () ((w.alloc (.cells Try.zeroCells100 100)).setRow w.heap.size (boolArr f)) := by
  have hb := heap_alloc_new w (.cells Try.zeroCells100 100)
  have hz := zero_bools
  exact run_storeVar_row _ _ _ _ _ _ hb (by rw [boolArr_size]; kernel_rfl) (by rw [hz, boolArr_size, boolArr_size]) (by rw [Array.all_eq_true_iff_forall_mem]; intro v hv; simp only [boolArr, List.mem_toArray, List.mem_map] at hv; obtain ⟨i, _, rfl⟩ := hv; rfl)
theorem own_bools {w wr : World} {l : List Thing} (h : Own w wr l) (f : Nat → Bool) : Own w ((wr.alloc (.cells Try.zeroCells100 100)).setRow wr.heap.size (boolArr f)) (l ++ [blkO wr.heap.size (boolArr f) 100]) ∧
    Fr (fun _ => False) wr ((wr.alloc (.cells Try.zeroCells100 100)).setRow wr.heap.size (boolArr f)) := by
  have hb := heap_alloc_new wr (.cells Try.zeroCells100 100)
  have hf : Fr (fun _ => False) wr ((wr.alloc (.cells Try.zeroCells100 100)).setRow wr.heap.size (boolArr f)) := fr_setRow ((Fr.refl _ wr).alloc _) _ _ (.inr (Nat.le_refl _))
  exact ⟨h.snoc hf (block_setRow hb) (blkO_ob _ _ _) (fun k hk => by cases hk; exact Nat.le_refl _), hf⟩
/-- How many of the first signs are in the set. -/
theorem count_step (F : Nat → Bool) (k : Nat) : (k + 1 - Fq.below F (k + 1) : Nat) = if F k then (k - Fq.below F k) + 1 else k - Fq.below F k := by
  have := Fq.below_le F k
  show (k + 1 - (if F k then Fq.below F k else Fq.below F k + 1)) = _
  split <;> omega

set_option maxHeartbeats 16000000 in
set_option maxRecDepth 100000 in
theorem freqPuts_walk (s : ByteArray) (hs : s.size ≤ 9223372036854775807) (f : Nat → UInt8 × ByteArray × Bool) (hf : ∀ i, (f i).2.1.size ≤ maxLen) (A : Option Addr) (len cap : Nat) (hlen : len ≤ 9223372036854775807) (w : World)
    (hat : ∀ i, i < len → ∃ b off, A = some ⟨b, off, none⟩ ∧ AskAt w b (off + i * 3) (f i)) :
    Calls Try.prog 10 #[.string s, .slice A len cap] w fun r w' => r = .returned (.bool true) ∧ Fr (fun _ => False) w w' := by
  have Hat := Lib.hid hat
  have Hf := Lib.hid hf
  obtain ⟨T, hT⟩ : ∃ T, Fq.addF (byteC s) = T := ⟨_, rfl⟩
  have hT0 : T 0 = Fq.T.none_ := by rw [← hT]; rfl
  have hT1 : ∀ i, T (i + 1) = (T i).add (byteC s i) := fun i => by rw [← hT]; rfl
  have hTk : ∀ i, (T i).Ok := fun i => by rw [← hT]; exact Fq.addF_ok _ i
  have HT0 := Lib.hid hT0
  have HT1 := Lib.hid hT1
  have HTk := Lib.hid hTk
  clear hat hf hT hT0 hT1 hTk
  go_enter Try.func10, Try.ntmps10
  go_upto_region 3 with (go_at_call 47; refine (speaks05 _).mono ?_; rintro r w1 ⟨rfl, h1⟩; have H1 : Hid (Own w w1 []) := (Own.nil w).fresh h1; clear h1)
  go_upto_region 4 with (go_at_call 48; refine (own_tnew H1.out).mono ?_; rintro r w2 ⟨rfl, h⟩; have H2 := Lib.hid h; clear h)
  have h3 := own_qnew H2.out
  obtain ⟨p, hp⟩ : ∃ p, w1.heap.size = p := ⟨_, rfl⟩
  obtain ⟨bm, hbm⟩ : ∃ p, w2.heap.size = p := ⟨_, rfl⟩
  have hst : ∃ W3, w2.alloc (.cells #[.slice none 0 0, .slice none 0 0] 89) = W3 ∧ Own w W3 [tabO p (T 0) (.slice none 0 0) (.slice none 0 0), qabO bm (T 0) (.slice none 0 0) (.slice none 0 0)] := ⟨_, rfl, by rw [HT0.out, ← hp, ← hbm]; exact h3⟩
  obtain ⟨W3, hW3, hst⟩ := hst
  rw [hp]
  have Hst := Lib.hid hst
  clear h3 hp hst H1 H2
  go_upto_region 5 with fail
  clear hW3 hbm
  go_upto_block 0 with fail
  go_cut [7] (fun _ wx => ∃ v1 v2 s1 s2, Hid (Own w wx [tabO p (T (min s.size 300)) v1 v2, qabO bm (T (min s.size 300)) s1 s2]))
  case first =>
    go_wp2
    go_loopw [7] (fun v7 wr => ∃ (i : Nat) (v1 v2 s1 s2 : Value), i ≤ s.size ∧ i ≤ 300 ∧ v7 = .int .i64 (i : Int) ∧ Hid (Own w wr [tabO p (T i) v1 v2, qabO bm (T i) s1 s2])) (fun v7 _ => 300 - (intOf v7).toNat)
    case atStart => exact ⟨0, _, _, _, _, Nat.zero_le _, by omega, rfl, Hst⟩
    case round =>
      obtain ⟨i, v1, v2, s1, s2, hi, hi2, rfl, HS⟩ := hrel
      clear Hst
      by_cases hlt : i < s.size ∧ i < 300
      · obtain ⟨hl1, hl2⟩ := hlt
        have hlI : (i : Int) < (s.size : Int) := by omega
        have hi0 : (0 : Int) ≤ (i : Int) := by omega
        have hii : (i : Int) < 300 := by omega
        have hu := byteC_at s i hl1
        have hnx := HT1.out i
        rw [hu] at hnx
        have ha := own_add HS.out 0 p _ v1 v2 rfl (HTk.out i) (s[i]'hl1)
        rw [← hnx] at ha
        have Ha := Lib.hid ha
        have Hnx := Lib.hid hnx
        clear ha hu hnx
        go_upto_region 9 with (go_at_call 49; refine Ha.out.mono ?_; rintro r w4 ⟨rfl, v3, v4, h⟩; have HS2 := Lib.hid h; clear h)
        clear Ha HS
        have hQ := HS2.out.get 1 (x := qabO bm (T i) s1 s2) rfl
        obtain ⟨A1, k1, A2, k2, e1, e2⟩ := QabAt.slices hQ
        subst e1 e2
        obtain ⟨c0, c1, f0, f1⟩ := QabAt.cells hQ
        have hra := ref_tab_add (.agg #[.slice A1 (T i).s.length k1, .slice A2 (T i).c.length k2]) (T i) (s[i]'hl1) w4.drew ⟨A1, k1, A2, k2, rfl, hQ.s, hQ.c⟩ (HTk.out i)
        rw [← Hnx.out] at hra
        have HRa := Lib.hid hra
        clear hra hQ
        go_region_with (go_at_call 50; refine HRa.out.mono ?_; rintro r w5 ⟨r5, rfl, hN, hf⟩; have hh := hN.ex; obtain ⟨D1, m1, D2, m2, rfl, o1, o2⟩ := hh; have HN := Lib.hid hN; have HF5 := Lib.hid hf; have d0 := hf.cell_ c0 (fun x => x); have d1 := hf.cell_ c1 (fun x => x); have g0 := hf.frozen_ c0 f0 (fun x => x); have g1 := hf.frozen_ c0 f1 (fun x => x); clear hN hf o1 o2)
        all_goals go_wp2
        all_goals go_roundw
        all_goals first
          | exact ⟨i + 1, v3, v4, _, _, by omega, by omega, by go_num, q_put (HS2.out.fresh (Fr.refl (fun _ => False) w4).drew) 1 rfl HN.out HF5.out⟩
          | (simp [intOf]; omega)
      · have hN : i = min s.size 300 := by omega
        rw [hN] at HS
        by_cases hl : i < s.size
        · have hl' : decide (i < s.size) = true := by simpa using hl
          have h80 : decide ((i : Int) < 300) = false := by simp; omega
          clear hlt hN hi hi2 hl
          go_wp2
          go_meet
          exact ⟨v1, v2, s1, s2, HS⟩
        · have hl' : decide (i < s.size) = false := by simpa using hl
          clear hlt hN hi hi2 hl
          go_wp2
          go_meet
          exact ⟨v1, v2, s1, s2, HS⟩
  case rest =>
    obtain ⟨v1, v2, s1, s2, HS⟩ := hcut
    clear Hst
    obtain ⟨U, hU⟩ : ∃ U, T (min s.size 300) = U := ⟨_, rfl⟩
    have hUk := HTk.out (min s.size 300)
    rw [hU] at HS hUk
    clear hU HTk HT1 HT0
    obtain ⟨g, hg⟩ : ∃ g, (fun i => askF (f i)) = g := ⟨_, rfl⟩
    have hgi : ∀ i, g i = askF (f i) := fun i => by rw [← hg]
    have hok := Fq.seqF_ok g hUk
    have hnx : ∀ i, Fq.seqF g U (i + 1) = ((Fq.seqF g U i).1 ++ (g i).ops (Fq.seqF g U i).2, (g i).tab (Fq.seqF g U i).2) := fun _ => rfl
    have hq0 : Fq.seqF g U 0 = ([], U) := rfl
    obtain ⟨SQ, hSQ⟩ : ∃ SQ, Fq.seqF g U = SQ := ⟨_, rfl⟩
    rw [hSQ] at hok hnx hq0
    have Hgi := Lib.hid hgi
    have Hok := Lib.hid hok
    have Hnx := Lib.hid hnx
    have Hq0 := Lib.hid hq0
    clear hg hgi hok hnx hq0 hSQ hUk
    go_upto_region 11 with (first
      | (go_at_call 13; refine (own_enew HS.out).mono ?_; rintro r w5 ⟨rfl, h⟩; have H5 := Lib.hid h; clear h)
      | (go_at_call 14; refine (ref_new w5).mono ?_; rintro r w6 ⟨r6, rfl, hA, hf, hr⟩; have hh := hA.ex; obtain ⟨y0, yc, L0, S0, ho, rfl, hrel0⟩ := hh; have HA6 := Lib.hid hA; have HF6 := Lib.hid hf; have HR6 := Lib.hid hr; clear hA hf hr ho hrel0))
    have hst : ∃ W pe be, w6.alloc (.cells #[.slice y0 L0.length yc, .int .u64 (S0 : Int)] 29) = W ∧ wc.heap.size = pe ∧ w6.heap.size = be ∧
        Own w W [tabO p (SQ 0).2 v1 v2, qabO bm (SQ 0).2 s1 s2, encO pe (.slice none 0 0) (SQ 0).1, refO be (.slice y0 L0.length yc) (.int .u64 (S0 : Int)) (Rc.A.start.run (SQ 0).1)] := ⟨_, _, _, rfl, rfl, rfl, by rw [Hq0.out]; exact own_rnew H5.out HA6.out HF6.out HR6.out⟩
    obtain ⟨W, pe, be, hW, hpe, hbe, hst⟩ := hst
    rw [hW, hpe, hbe]
    have H7 := Lib.hid hst
    clear hW hpe hbe hst H5 HA6 HF6 HR6 HS
    go_upto_block 2 with fail
    go_cut [10, 11, 12, 13, 14, 15, 16] (fun _ _ _ _ _ _ _ wx => ∃ v1 v2 s1 s2 v x0 x1, Hid (Own w wx [tabO p (SQ (min len 40)).2 v1 v2, qabO bm (SQ (min len 40)).2 s1 s2, encO pe v (SQ (min len 40)).1, refO be x0 x1 (Rc.A.start.run (SQ (min len 40)).1)]))
    case first =>
      go_wp2
      go_loopw [10, 11, 12, 13, 14, 15, 16] (fun v10 _ _ _ _ _ _ wr => ∃ (i : Nat) (v1 v2 s1 s2 v x0 x1 : Value), i ≤ len ∧ i ≤ 40 ∧ v10 = .int .i64 (i : Int) ∧ Hid (Own w wr [tabO p (SQ i).2 v1 v2, qabO bm (SQ i).2 s1 s2, encO pe v (SQ i).1, refO be x0 x1 (Rc.A.start.run (SQ i).1)])) (fun v10 _ _ _ _ _ _ _ => 40 - (intOf v10).toNat)
      case atStart => exact ⟨0, _, _, _, _, _, _, _, Nat.zero_le _, by omega, rfl, H7⟩
      case round =>
        obtain ⟨i, v3, v4, s3, s4, v, x0, x1, hi, hi2, rfl, HS⟩ := hrel
        clear H7
        by_cases hlt : i < len ∧ i < 40
        · obtain ⟨hl1, hl2⟩ := hlt
          obtain ⟨eb, off, rfl, hx⟩ := Hat.out i hl1
          have hfi := Hf.out i
          have hii : (i : Int) < 40 := by omega
          have hi0 : (0 : Int) ≤ (i : Int) := by omega
          have hll : (i : Int) < (len : Int) := by omega
          have hgi := Hgi.out i
          obtain ⟨x, t, m, hfx⟩ : ∃ x t m, f i = (x, t, m) := ⟨_, _, _, rfl⟩
          rw [hfx] at hx hfi hgi
          have c0 := HS.out.fr.cell_ hx.c0 (fun h => h)
          have c1 := HS.out.fr.cell_ hx.c1 (fun h => h)
          have c2 := HS.out.fr.cell_ hx.c2 (fun h => h)
          dsimp only at c0 c1 c2 hfi
          have hset := fun w => sets_walk t (Nat.le_trans hfi (by decide)) w
          obtain ⟨F, hF⟩ : ∃ F, Fq.stF (byteAt t) (min t.size 200) = F := ⟨_, rfl⟩
          obtain ⟨M, hM⟩ : ∃ M, Fq.stN (byteAt t) (min t.size 200) = M := ⟨_, rfl⟩
          have hsum := Fq.st_sum (byteAt t) (byteAt_lt t) (min t.size 200)
          have hgx : g i = ⟨x, F, m⟩ := by rw [hgi, ← hF]; rfl
          rw [hF, hM] at hset hsum
          have Hset := Lib.hid hset
          have Hsum := Lib.hid hsum
          have Hgx := Lib.hid hgx
          have hX2 := x.toNat_lt
          obtain ⟨X, hX⟩ : ∃ X, x.toNat = X := ⟨_, rfl⟩
          have HX := Lib.hid hX
          rw [hX] at c0 hX2
          clear hx hfi hgi hfx hset hF hM hsum hgx hX
          go_upto_region 15 with fail
          have hst : ∃ W ab, wr.alloc (.cells #[.int .u8 (X : Int), .string t, .bool m] 98) = W ∧ wr.heap.size = ab ∧ Own w W [tabO p (SQ i).2 v3 v4, qabO bm (SQ i).2 s3 s4, encO pe v (SQ i).1, refO be x0 x1 (Rc.A.start.run (SQ i).1), blkO ab #[.int .u8 (X : Int), .string t, .bool m] 98] ∧ W.heap[ab]? = some (.cells #[.int .u8 (X : Int), .string t, .bool m] 98 (0, 0)) :=
            ⟨_, _, rfl, rfl, HS.out.snoc (y := blkO wr.heap.size #[.int .u8 (X : Int), .string t, .bool m] 98) ((Fr.refl _ _).alloc _) (heap_alloc_new wr _) (blkO_ob _ _ _) (fun k hk => by cases hk; exact Nat.le_refl _), heap_alloc_new wr _⟩
          obtain ⟨W, ab, hW, hab, hst, hb⟩ := hst
          rw [hW, hab]
          have HS2 := Lib.hid hst
          have d1 : W.cell? ⟨ab, 1, none⟩ = some (.string t) := (cell_of hb 1).trans rfl
          clear hW hab hst hb c0 c1 c2 HS
          obtain ⟨BA, hBA⟩ : ∃ BA, boolArr F = BA := ⟨_, rfl⟩
          rw [hBA] at Hset
          have HBA := Lib.hid hBA
          clear hBA
          go_upto_region 16 with (first
            | (go_at_call 53; refine (Hset.out W).mono ?_; rintro r w7 ⟨qs, rfl, hq1, hq2, hq3⟩; have HS3 := Lib.hid (HS2.out.snoc (y := setO qs M F) hq3 hq2 (setO_ob _ _ _) (fun k hk => by cases hk; exact hq1)); have R2 := Lib.hid (store_boolsT w7 F); rw [HBA.out] at R2; clear hq1 hq2 hq3)
            | (refine wpList_store_arr rfl 100 _ _ rfl rfl rfl R2.out ?_))
          have hst : ∃ W8 bb, (w7.alloc (.cells Try.zeroCells100 100)).setRow w7.heap.size BA = W8 ∧ w7.heap.size = bb ∧ Own w W8 [tabO p (SQ i).2 v3 v4, qabO bm (SQ i).2 s3 s4, encO pe v (SQ i).1, refO be x0 x1 (Rc.A.start.run (SQ i).1), blkO ab #[.int .u8 (X : Int), .string t, .bool m] 98, setO qs M F, blkO bb BA 100] := by
            have h := own_bools HS3.out F
            rw [HBA.out] at h
            exact ⟨_, _, rfl, rfl, h.1⟩
          obtain ⟨W8, bb, hW8, hbb, hs8⟩ := hst
          rw [hW8, hbb]
          have HS8 := Lib.hid hs8
          clear hW8 hbb hs8 HS3 R2 HS2 Hset d1
          have hba : ∀ k, k < 256 → BA[k]? = some (.bool (F k)) := fun k hk => by rw [← HBA.out]; exact boolArr_get F k hk
          have Hba := Lib.hid hba
          have hcs := count_step F
          have Hcs := Lib.hid hcs
          have hbl := Fq.below_le F
          have Hbl := Lib.hid hbl
          have hM256 : M ≤ 256 := by have := Hsum.out; omega
          obtain ⟨CN, hCN⟩ : ∃ c : Nat → Nat, (fun k => k - Fq.below F k) = c := ⟨_, rfl⟩
          have hcn0 : CN 0 = 0 := by rw [← hCN]; exact Nat.zero_sub _
          have hcn1 : ∀ k, CN (k + 1) = if F k then CN k + 1 else CN k := fun k => by rw [← hCN]; exact Hcs.out k
          have hcnl : ∀ k, CN k ≤ k := fun k => by rw [← hCN]; exact Nat.sub_le _ _
          have hcnM : CN 256 = M := by rw [← hCN]; show 256 - Fq.below F 256 = M; have := Hsum.out; omega
          have Hcn0 := Lib.hid hcn0
          have Hcn1 := Lib.hid hcn1
          have Hcnl := Lib.hid hcnl
          have HcnM := Lib.hid hcnM
          clear hba hcs hbl hCN hcn0 hcn1 hcnl hcnM Hcs Hbl
          go_wp2
          go_loop [14, 15] (fun v14 v15 => ∃ k : Nat, k ≤ 256 ∧ v15 = .int .i64 (k : Int) ∧ v14 = .int .i64 ((CN k : Nat) : Int)) (fun _ v15 => 256 - (intOf v15).toNat)
          case atStart => exact ⟨0, Nat.zero_le _, rfl, by rw [Hcn0.out]; rfl⟩
          case round =>
            obtain ⟨k, hk, rfl, rfl⟩ := hrel
            have hcl := Hcnl.out k
            by_cases hlk : k < 256
            · have hki : (k : Int) < 256 := by omega
              have hk0 : (0 : Int) ≤ (k : Int) := by omega
              have x1' : W8.cell? ⟨bb, k, none⟩ = some (.bool (F k)) := (cell_of (HS8.out.get 6 (x := blkO bb BA 100) rfl) k).trans (Hba.out k hlk)
              have hst1 := Hcn1.out k
              rcases hfk : F k with _ | _
              · rw [hfk] at x1' hst1
                have Hst1 := Lib.hid hst1
                clear hst1 hfk
                go_wp2
                go_round
                case rel => exact ⟨k + 1, by omega, by go_num, by rw [Hst1.out]; rfl⟩
                case measure => simp [intOf]; omega
              · rw [hfk] at x1' hst1
                have Hst1 := Lib.hid hst1
                have e1 : IntKind.i64.wrap ((CN k : Int) + 1) = ((CN k + 1 : Nat) : Int) := by rw [IntWalk.i64_in _ (by omega)]; omega
                clear hst1 hfk
                obtain ⟨c, hc⟩ : ∃ c, CN k = c := ⟨_, rfl⟩
                rw [hc] at e1 Hst1 hcl ⊢
                clear hc
                go_wp2
                go_round
                case rel => exact ⟨k + 1, by omega, by go_num, by rw [Hst1.out]; first | rfl | go_num⟩
                case measure => simp [intOf]; omega
            · obtain rfl : k = 256 := by omega
              rw [HcnM.out]
              clear hlk hk hcl Hcn0 Hcn1 Hcnl HcnM
              have hact := HS8.out.get 4 (x := blkO ab #[.int .u8 (X : Int), .string t, .bool m] 98) rfl
              have d0 : W8.cell? ⟨ab, 0, none⟩ = some (.int .u8 (X : Int)) := (cell_of hact 0).trans rfl
              have x9 : W8.cell? ⟨bb, X, none⟩ = some (.bool (F X)) := (cell_of (HS8.out.get 6 (x := blkO bb BA 100) rfl) X).trans (Hba.out X hX2)
              have hXi : (X : Int) < 256 := by omega
              have hX0 : (0 : Int) ≤ (X : Int) := by omega
              have hln : ∀ n, Calls Try.prog 54 #[.pointer (some ⟨qs, 0, none⟩)] (W8.drewN n) fun r w' => r = .returned (.int .i64 (M : Int)) ∧ w' = W8.drewN n := fun n => (set_len _ F M (W8.drewN n) (.some_ qs M F ((HS8.out.fresh ((Fr.refl (fun _ => False) W8).drewN n)).get 5 (x := setO qs M F) rfl))).mono (fun _ _ h => ⟨h.1, h.2.symm⟩)
              have hhs : ∀ n, Calls Try.prog 55 #[.pointer (some ⟨qs, 0, none⟩), .int .u8 (X : Int)] (W8.drewN n) fun r w' => r = .returned (.bool (F X)) ∧ w' = W8.drewN n := fun n => (set_has _ F M X (W8.drewN n) (.some_ qs M F ((HS8.out.fresh ((Fr.refl (fun _ => False) W8).drewN n)).get 5 (x := setO qs M F) rfl)) hX2).mono (fun _ _ h => ⟨h.1, h.2.symm⟩)
              obtain ⟨fx, hfx⟩ : ∃ b, F X = b := ⟨_, rfl⟩
              rw [hfx] at x9 hhs
              have HLn := Lib.hid hln
              have HHs := Lib.hid hhs
              have HFx := Lib.hid hfx
              clear hact hln hhs hfx
              have hbb : (fx != fx) = false := by cases fx <;> rfl
              go_upto_region 22 with fail
              go_quiet ((first | (go_at_call 54; exact Calls.quiet_of_same (HLn.out _)) | (go_at_call 55; exact Calls.quiet_of_same (HHs.out _))))
              have hst : ∃ W9, W8.drewN nq = W9 ∧ Own w W9 [tabO p (SQ i).2 v3 v4, qabO bm (SQ i).2 s3 s4, encO pe v (SQ i).1, refO be x0 x1 (Rc.A.start.run (SQ i).1), blkO ab #[.int .u8 (X : Int), .string t, .bool m] 98, setO qs M F, blkO bb BA 100] := ⟨_, rfl, HS8.out.fresh ((Fr.refl (fun _ => False) W8).drewN nq)⟩
              obtain ⟨W9, hW9, hs9⟩ := hst
              rw [hW9]
              have HS9 := Lib.hid hs9
              clear hW9 hs9 HS8 d0 x9 HLn HHs hbb
              have hgood := Rc.A.Good.start.run (Hok.out i).1
              have hak : (Rc.A.start.run (SQ i).1).k ≤ 100000000 := by
                have h1 := run_k Rc.A.start (SQ i).1
                have h0 : Rc.A.start.k = 0 := rfl
                have h2 := (Hok.out i).2.2
                omega
              have hlq : (SQ i).1.length ≤ 90000000 := Nat.le_trans (Hok.out i).2.2 (by omega)
              have hnx := Hnx.out i
              rw [Hgx.out] at hnx
              have hact := HS9.out.get 4 (x := blkO ab #[.int .u8 (X : Int), .string t, .bool m] 98) rfl
              have d0 : W9.cell? ⟨ab, 0, none⟩ = some (.int .u8 (X : Int)) := (cell_of hact 0).trans rfl
              have d2 : W9.cell? ⟨ab, 2, none⟩ = some (.bool m) := (cell_of hact 2).trans rfl
              have hbk9 := HS9.out.get 6 (x := blkO bb BA 100) rfl
              have x9 : W9.cell? ⟨bb, X, none⟩ = some (.bool fx) := (cell_of hbk9 X).trans ((Hba.out X hX2).trans (by rw [HFx.out]))
              clear hact hbk9
              cases m
              · as_aux_lemma =>
                  have hnop : (Fq.Ask.ops ⟨x, F, false⟩ (SQ i).2) = [(SQ i).2.putOp x (bySign F)] := rfl
                  have hntb : (Fq.Ask.tab ⟨x, F, false⟩ (SQ i).2) = (SQ i).2.add x := rfl
                  rw [hnop, hntb] at hnx
                  have Hnxi := Lib.hid hnx
                  have hQ := HS9.out.get 1 (x := qabO bm (SQ i).2 s3 s4) rfl
                  obtain ⟨A1, k1, A2, k2, e1, e2⟩ := QabAt.slices hQ
                  subst e1 e2
                  obtain ⟨c0, c1, f0, f1⟩ := QabAt.cells hQ
                  have hRf := HS9.out.get 3 (x := refO be x0 x1 (Rc.A.start.run (SQ i).1)) rfl
                  have b0 : W9.cell? ⟨be, 0, none⟩ = some x0 := (cell_of hRf.1 0).trans rfl
                  have b1 : W9.cell? ⟨be, 1, none⟩ = some x1 := (cell_of hRf.1 1).trans rfl
                  have hput := ref_tab_put (.agg #[x0, x1]) (Rc.A.start.run (SQ i).1) (.agg #[.slice A1 (SQ i).2.s.length k1, .slice A2 (SQ i).2.c.length k2]) (SQ i).2 x F W9 hRf.2 hgood hak ⟨A1, k1, A2, k2, rfl, hQ.s, hQ.c⟩ (Hok.out i).2.1
                  rw [HX.out, HBA.out] at hput
                  obtain ⟨ok, hok⟩ : ∃ b, (SQ i).2.isIn x (bySign F) = b := ⟨_, rfl⟩
                  rw [hok] at hput
                  have R1 := Lib.hid (load_bools W9 bb F (by rw [HBA.out]; exact HS9.out.get 6 (x := blkO bb BA 100) rfl))
                  rw [HBA.out] at R1
                  have HPut := Lib.hid hput
                  have HOkb := Lib.hid hok
                  have hbrf := hRf.1
                  have HBrf := Lib.hid hbrf
                  clear hput hok hnx hnop hntb hQ hRf hbrf x9
                  go_upto_region 30 with (first
                    | (refine wpList_load_arr rfl 100 _ rfl rfl R1.out ?_)
                    | (go_at_call 58; refine HPut.out.mono ?_; rintro r w10 ⟨r10, rfl, hA, hf, hr⟩; have hh := hA.ex; obtain ⟨y, yc2, LL, SS, ho, rfl, hrel⟩ := hh; have HA10 := Lib.hid hA; have HF10 := Lib.hid hf; have HR10 := Lib.hid hr; have g0 : w10.cell? ⟨be, 0, none⟩ = some x0 := (cell_of (hf.keep HBrf.out (fun x => x)) 0).trans rfl; have g1 : w10.cell? ⟨be, 1, none⟩ = some x1 := (cell_of (hf.keep HBrf.out (fun x => x)) 1).trans rfl; have gf0 := free_of (hf.keep HBrf.out (fun x => x)) 0; have gf1 := free_of (hf.keep HBrf.out (fun x => x)) 1; clear hA hf hr ho hrel))
                  have hst := r_put HS9.out 3 rfl HA10.out HF10.out HR10.out
                  obtain ⟨W11, hW11⟩ : ∃ W, (w10.setCell ⟨be, 0, none⟩ (.slice y LL.length yc2)).setCell ⟨be, 1, none⟩ (.int .u64 (SS : Int)) = W := ⟨_, rfl⟩
                  rw [hW11] at hst ⊢
                  have HS11 := Lib.hid hst
                  clear hW11 hst g0 g1 gf0 gf1 b0 b1 c0 c1 f0 f1 d0 d2 HA10 HF10 HR10 HPut HBrf R1
                  have hact := HS11.out.get 4 (x := blkO ab #[.int .u8 (X : Int), .string t, .bool false] 98) rfl
                  have d0 : W11.cell? ⟨ab, 0, none⟩ = some (.int .u8 (X : Int)) := (cell_of hact 0).trans rfl
                  have hpt := own_put HS11.out 0 2 p pe (SQ i).2 v3 v4 v (SQ i).1 rfl rfl (Hok.out i).2.1 hlq _ F M (.some_ qs M F (HS11.out.get 5 (x := setO qs M F) rfl)) x
                  rw [HX.out, HOkb.out] at hpt
                  have HPt := Lib.hid hpt
                  have hbb : (ok != ok) = false := by cases ok <;> rfl
                  clear hact hpt
                  go_upto_region 32 with (go_at_call 59; refine HPt.out.mono ?_; rintro r w12 ⟨rfl, v5, h⟩; have HS12 := Lib.hid h; clear h)
                  clear HPt HS11 d0 hbb
                  have hact := HS12.out.get 4 (x := blkO ab #[.int .u8 (X : Int), .string t, .bool false] 98) rfl
                  have d0 : w12.cell? ⟨ab, 0, none⟩ = some (.int .u8 (X : Int)) := (cell_of hact 0).trans rfl
                  have hadd := own_add HS12.out 0 p (SQ i).2 v3 v4 rfl (Hok.out i).2.1 x
                  rw [HX.out] at hadd
                  have HAdd := Lib.hid hadd
                  clear hact hadd
                  go_upto_region 33 with (go_at_call 49; refine HAdd.out.mono ?_; rintro r w13 ⟨rfl, v6, v7, h⟩; have HS13 := Lib.hid h; clear h)
                  clear HAdd HS12 d0
                  have hact := HS13.out.get 4 (x := blkO ab #[.int .u8 (X : Int), .string t, .bool false] 98) rfl
                  have d0 : w13.cell? ⟨ab, 0, none⟩ = some (.int .u8 (X : Int)) := (cell_of hact 0).trans rfl
                  have hQ := HS13.out.get 1 (x := qabO bm (SQ i).2 (.slice A1 (SQ i).2.s.length k1) (.slice A2 (SQ i).2.c.length k2)) rfl
                  obtain ⟨c0, c1, f0, f1⟩ := QabAt.cells hQ
                  have hra := ref_tab_add (.agg #[.slice A1 (SQ i).2.s.length k1, .slice A2 (SQ i).2.c.length k2]) (SQ i).2 x w13 ⟨A1, k1, A2, k2, rfl, hQ.s, hQ.c⟩ (Hok.out i).2.1
                  rw [HX.out] at hra
                  have HRa := Lib.hid hra
                  clear hact hQ hra
                  go_wp2_with (go_at_call 50; refine HRa.out.mono ?_; rintro r w14 ⟨r14, rfl, hN, hf⟩; have hh := hN.ex; obtain ⟨D1, m1, D2, m2, rfl, o1, o2⟩ := hh; have HN := Lib.hid hN; have HF14 := Lib.hid hf; have e0 := hf.cell_ c0 (fun x => x); have e1 := hf.cell_ c1 (fun x => x); have ef0 := hf.frozen_ c0 f0 (fun x => x); have ef1 := hf.frozen_ c0 f1 (fun x => x); clear hN hf o1 o2)
                  go_roundw
                  case rel =>
                    have hz := q_put HS13.out 1 rfl HN.out HF14.out
                    refine ⟨i + 1, v6, v7, .slice D1 ((SQ i).2.add x).s.length m1, .slice D2 ((SQ i).2.add x).c.length m2, v5, .slice y LL.length yc2, .int .u64 (SS : Int), hl1, by omega, by go_num, ?_⟩
                    rw [Hnxi.out, Rc.A.run_append]
                    exact hz.sub 4
                  case measure => simp [intOf]; omega
              · cases fx
                · as_aux_lemma =>
                    have hFx : F x.toNat = false := by rw [HX.out]; exact HFx.out
                    have hop : Fq.Ask.ops ⟨x, F, true⟩ (SQ i).2 = [Fq.anyOp x F] := by unfold Fq.Ask.ops; simp [hFx]
                    have htb : Fq.Ask.tab ⟨x, F, true⟩ (SQ i).2 = (SQ i).2 := rfl
                    rw [hop, htb] at hnx
                    have Hnxi := Lib.hid hnx
                    have hput := own_put_any HS9.out 2 pe v (SQ i).1 rfl hlq _ F M (.some_ qs M F (HS9.out.get 5 (x := setO qs M F) rfl)) Hsum.out x hFx
                    rw [HX.out] at hput
                    have HPut := Lib.hid hput
                    have HFxx := Lib.hid hFx
                    have HGood := Lib.hid hgood
                    have HAk := Lib.hid hak
                    clear hput hnx hop htb hlq hgood hak hFx
                    go_upto_region 27 with (go_at_call 56; refine HPut.out.mono ?_; rintro r w10 ⟨rfl, v5, h⟩; have HS10 := Lib.hid h; clear h)
                    clear HPut HS9 d0 d2 x9
                    have hact := HS10.out.get 4 (x := blkO ab #[.int .u8 (X : Int), .string t, .bool true] 98) rfl
                    have d0 : w10.cell? ⟨ab, 0, none⟩ = some (.int .u8 (X : Int)) := (cell_of hact 0).trans rfl
                    have hRf := HS10.out.get 3 (x := refO be x0 x1 (Rc.A.start.run (SQ i).1)) rfl
                    have b0 : w10.cell? ⟨be, 0, none⟩ = some x0 := (cell_of hRf.1 0).trans rfl
                    have b1 : w10.cell? ⟨be, 1, none⟩ = some x1 := (cell_of hRf.1 1).trans rfl
                    have hpa := ref_put_any (.agg #[x0, x1]) (Rc.A.start.run (SQ i).1) x F HFxx.out w10 hRf.2 HGood.out HAk.out
                    rw [HX.out, HBA.out] at hpa
                    have R1 := Lib.hid (load_bools w10 bb F (by rw [HBA.out]; exact HS10.out.get 6 (x := blkO bb BA 100) rfl))
                    rw [HBA.out] at R1
                    have HPa := Lib.hid hpa
                    have hbrf := hRf.1
                    have HBrf := Lib.hid hbrf
                    clear hact hRf hpa hbrf
                    go_wp2_with (first
                      | (refine wpList_load_arr rfl 100 _ rfl rfl R1.out ?_)
                      | (go_at_call 57; refine HPa.out.mono ?_; rintro r w11 ⟨r11, rfl, hA, hf, hr⟩; have hh := hA.ex; obtain ⟨y, yc2, LL, SS, ho, rfl, hrel⟩ := hh; have HA11 := Lib.hid hA; have HF11 := Lib.hid hf; have HR11 := Lib.hid hr; have g0 : w11.cell? ⟨be, 0, none⟩ = some x0 := (cell_of (hf.keep HBrf.out (fun x => x)) 0).trans rfl; have g1 : w11.cell? ⟨be, 1, none⟩ = some x1 := (cell_of (hf.keep HBrf.out (fun x => x)) 1).trans rfl; have gf0 := free_of (hf.keep HBrf.out (fun x => x)) 0; have gf1 := free_of (hf.keep HBrf.out (fun x => x)) 1; clear hA hf hr ho hrel))
                    go_roundw
                    case rel =>
                      have hz := r_put HS10.out 3 rfl HA11.out HF11.out HR11.out
                      refine ⟨i + 1, v3, v4, s3, s4, v5, .slice y LL.length yc2, .int .u64 (SS : Int), hl1, by omega, by go_num, ?_⟩
                      rw [Hnxi.out, Rc.A.run_append]
                      exact hz.sub 4
                    case measure => simp [intOf]; omega
                · have hFx : F x.toNat = true := by rw [HX.out]; exact HFx.out
                  have hop : Fq.Ask.ops ⟨x, F, true⟩ (SQ i).2 = [] := by unfold Fq.Ask.ops; simp [hFx]
                  have htb : Fq.Ask.tab ⟨x, F, true⟩ (SQ i).2 = (SQ i).2 := rfl
                  rw [hop, htb, List.append_nil] at hnx
                  have Hnxi := Lib.hid hnx
                  clear hnx hop htb hlq hgood hak hFx
                  go_wp2
                  go_roundw
                  case rel =>
                    refine ⟨i + 1, v3, v4, s3, s4, v, x0, x1, hl1, by omega, by go_num, ?_⟩
                    rw [Hnxi.out]
                    exact HS9.out.sub 4
                  case measure => simp [intOf]; omega
        · have hN : i = min len 40 := by omega
          rw [hN] at HS
          by_cases hl : i < len
          · have hl' : decide (i < len) = true := by simpa using hl
            have h80 : decide ((i : Int) < 40) = false := by simp; omega
            clear hlt hN hi hi2 hl
            go_wp2
            go_meet
            exact ⟨_, _, _, _, _, _, _, HS⟩
          · have hl' : decide (i < len) = false := by simpa using hl
            clear hlt hN hi hi2 hl
            go_wp2
            go_meet
            exact ⟨_, _, _, _, _, _, _, HS⟩
    case rest =>
      obtain ⟨v5, v6, s5, s6, v, x0, x1, HS⟩ := hcut
      clear H7
      obtain ⟨K, hK⟩ : ∃ K, min len 40 = K := ⟨_, rfl⟩
      rw [hK] at HS
      have hk40 : K ≤ 40 := by omega
      have hln : (SQ K).1.length ≤ 40 := Nat.le_trans (Hok.out K).2.2 hk40
      have hE := own_end HS.out 2 pe v (SQ K).1 rfl (Nat.le_trans hln (by decide))
      have hRf := HS.out.get 3 (x := refO be x0 x1 (Rc.A.start.run (SQ K).1)) rfl
      have hEo := HS.out.get 2 (x := encO pe v (SQ K).1) rfl
      have m0 : wc.cell? ⟨be, 0, none⟩ = some x0 := (cell_of hRf.1 0).trans rfl
      have m1 : wc.cell? ⟨be, 1, none⟩ = some x1 := (cell_of hRf.1 1).trans rfl
      obtain ⟨S, hS⟩ : ∃ S : ByteArray, (⟨(Rc.bytes (SQ K).1).toArray⟩ : ByteArray) = S := ⟨_, rfl⟩
      have hEE : ∀ W, Fr (fun _ => False) wc W → Calls Try.prog 22 #[.pointer (some ⟨pe, 0, none⟩)] W fun r w' => r = .returned (.string S) ∧ Fr (fun _ => False) W w' := fun W hW => by rw [← hS]; exact end_ops pe v (SQ K).1 W (EncO.keep hEo hW (fun _ _ h => h)) (Nat.le_trans hln (by decide))
      have hRR : ∀ W, Fr (fun _ => False) wc W → Calls Try.prog 23 #[.agg #[x0, x1]] W fun r w' => r = .returned (.string S) ∧ Fr (fun _ => False) W w' := fun W hW => by
        rw [← hS]
        refine ref_end _ (Rc.A.start.run (SQ K).1) (Rc.E.start.run (SQ K).1) W (refA_keep hRf.2 hW (fun _ _ x => x)) ?_ (EncO.rel hEo)
        have h1 := run_k Rc.A.start (SQ K).1
        have h0 : Rc.A.start.k = 0 := rfl
        omega
      have HE := Lib.hid hEE
      have HR := Lib.hid hRR
      have HF0 : Hid (Fr (fun _ => False) wc wc.drew) := (Fr.refl _ _).drew
      have Hfr := Lib.hid HS.out.fr
      clear hK hk40 hln hE hRf hEo hS hEE hRR HS hlen
      go_upto_region 36 with (go_at_call 60; refine (set_add_nil 1 _).mono ?_; rintro r w7 ⟨rfl, hw⟩; rw [← hw]; clear hw)
      go_region_with (first
        | (go_at_call 22; (with_reducible refine (HE.out _ HF0.out).mono ?_); rintro r8 w8 ⟨rfl, h2⟩; have HF8 := Lib.hid (HF0.out.trans h2 (fun _ h => .inl h)); have m0b := HF8.out.cell_ m0 (fun h => h); have m1b := HF8.out.cell_ m1 (fun h => h); clear h2)
        | (go_at_call 23; (with_reducible refine (HR.out _ HF0.out).mono ?_); rintro r9 w9 ⟨rfl, h2⟩; have HF9 := Lib.hid (HF0.out.trans h2 (fun _ h => .inl h)); clear h2)
        | (go_at_call 22; (with_reducible refine (HE.out _ HF9.out).mono ?_); rintro r8 w10 ⟨rfl, h2⟩; have HFz := Lib.hid (HF9.out.trans h2 (fun _ h => .inl h)); clear h2)
        | (go_at_call 23; (with_reducible refine (HR.out _ HF8.out).mono ?_); rintro r9 w10 ⟨rfl, h2⟩; have HFz := Lib.hid (HF8.out.trans h2 (fun _ h => .inl h)); clear h2)
        | (go_at_call 55; refine (set_has (.pointer none) (fun _ => false) 0 1 _ .none_ (by decide)).mono ?_; rintro r w7 ⟨rfl, hw⟩; rw [← hw]; clear hw)
        | (go_at_call 54; refine (set_len (.pointer none) (fun _ => false) 0 _ .none_).mono ?_; rintro r w7 ⟨rfl, hw⟩; rw [← hw]; clear hw))
      all_goals go_wp2
      all_goals go_ret
      all_goals exact ⟨rfl, Hfr.out.trans HFz.out (fun _ h => .inl h)⟩
end Go.Proofs.Ytpddocehjljofaa
