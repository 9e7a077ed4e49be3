/- PriceSums: the walk of the law. -/
import Derived.Test.YtlkiijojldnlbaaSm
import Derived.Deep.AppendLies
namespace Go.Proofs.Ytlkiijojldnlbaa
open Go.RowKit Go.Sort

theorem info33 : (Try.prog.info? 33).map (fun i => (i.zero, i.size, i.bytes)) = some (some (.agg #[.int .i64 0, .int .i64 0, .int .i64 0, .int .u8 0]), 4, 32) := by kernel_rfl

theorem own_gw {w w' : World} {B e s n : Nat} {v : Value} {xs : List Value} (h : w.ownsRow B e s v n xs) (g : Gw w w') : w'.ownsRow B e s v n xs := by
  refine ⟨h.1, ?_⟩
  rcases h.2 with hn | ⟨g0, cap, cur, rfl, hb, hgg, rest⟩
  · exact .inl hn
  · exact .inr ⟨g0, cap, cur, rfl, hb, (g.below.block _ (Array.getElem?_eq_some_iff.1 hgg).1).trans hgg, rest⟩

/-- The law's own sum, and whether all may be. -/
structure Sumd (a b c d e : Int) (f : Nat → Pk) (k : Nat) (S : Int) (o : Bool) : Prop where
  good : o = true → (∀ i, i < k → okk (f i)) ∧ S = costs a b c d e f k
  bad : o = false → ∃ i, i < k ∧ ¬ okk (f i)
  lo : 0 ≤ S
  hi : S ≤ 1000000 * k

theorem Sumd.step_ok {a b c d e : Int} {f : Nat → Pk} {k : Nat} {S : Int} {o : Bool} (h : Sumd a b c d e f k S o) (r : Rg a b c d e) (hf : (f k).fits) (hok : okk (f k)) (C : Int) (hC : C = cost a b c d e (f k)) :
    Sumd a b c d e f (k + 1) (S + C) o := by
  have hr := cost_range r (f k) hf
  refine ⟨fun ho => ⟨fun i hi => ?_, ?_⟩, fun ho => ?_, ?_, ?_⟩
  · by_cases h2 : i = k
    · subst h2; exact hok
    · exact (h.good ho).1 i (by omega)
  · rw [(h.good ho).2, hC]; rfl
  · obtain ⟨i, hi, hn⟩ := h.bad ho
    exact ⟨i, by omega, hn⟩
  · have := h.lo; omega
  · have := h.hi; omega
theorem Sumd.step_bad {a b c d e : Int} {f : Nat → Pk} {k : Nat} {S : Int} {o : Bool} (h : Sumd a b c d e f k S o) (hn : ¬ okk (f k)) :
    Sumd a b c d e f (k + 1) S false :=
  ⟨fun ho => (by cases ho), fun _ => ⟨k, by omega, hn⟩, h.lo, by have := h.hi; omega⟩

set_option maxHeartbeats 8000000 in
set_option maxRecDepth 100000 in
theorem priceSums_walk (a b c d e : Int) (f : Nat → Pk) (hf : ∀ i, (f i).fits) (ao : Option Addr) (len cap : Nat) (hlen : len ≤ 9223372036854775807) (w : World)
    (hc : ∀ i, i < len → ∃ B off, ao = some ⟨B, off, none⟩ ∧ B < w.heap.size ∧ PkAt w B (off + i * 4) (f i)) :
    Calls Try.prog 4 #[.agg #[.int .i64 a, .int .i64 b, .int .i64 c, .int .i64 d, .int .i64 e], .slice ao len cap] w fun x w' => x = .returned (.bool true) ∧ Below w.heap.size w w' := by
  obtain ⟨i0, hi, hz0, hz1, hz2⟩ := info_parts info33
  have hgd := fun w => good_is a b c d e w
  have hr := @rg_of a b c d e
  generalize okT a b c d e = g at *
  have Hgd := Lib.hid hgd
  have Hr := Lib.hid hr
  have Hc := Lib.hid hc
  have HF := Lib.hid hf
  have Hi := Lib.hid hi
  have Hz0 := Lib.hid hz0
  have Hz1 := Lib.hid hz1
  have Hz2 := Lib.hid hz2
  clear hgd hr hc hf hi hz0 hz1 hz2
  have mixed : Try.prog.follows .mixedOrders = true := by kernel_rfl
  go_enter Try.func4, Try.ntmps4
  go_upto_region 1 with fail
  have hb0 := Tb.new w a b c d e 23
  have hg0 : Gw w (w.alloc (.cells #[.int .i64 a, .int .i64 b, .int .i64 c, .int .i64 d, .int .i64 e] 23)) := (Gw.refl w).alloc _
  generalize w.alloc (.cells #[.int .i64 a, .int .i64 b, .int .i64 c, .int .i64 d, .int .i64 e] 23) = w1 at *
  generalize hT : w.heap.size = T at *
  have HT := Lib.hid hT
  have Hb0 := Lib.hid hb0
  have Hg0 := Lib.hid hg0
  clear hb0 hg0 hT
  go_upto_region 3 with (go_at_call 8; refine (speaks15 _).mono ?_; rintro x w2 ⟨rfl, h2⟩; have H2 := Lib.hid h2; clear h2)
  have hg1 : Gw w w2 := Hg0.out.trans H2.out
  have hb1 := Hb0.out.gw H2.out
  clear Hg0 Hb0 H2
  obtain ⟨lt0, c0, c1, c2, c3, c4⟩ := hb1
  go_upto_region 4 with fail
  have hb3 := Tb.new w2 a b c d e 25
  have hal : Gw w2 (w2.alloc (.cells #[.int .i64 a, .int .i64 b, .int .i64 c, .int .i64 d, .int .i64 e] 25)) := (Gw.refl w2).alloc _
  have hb2 := Tb.gw ⟨lt0, c0, c1, c2, c3, c4⟩ hal
  have hg2 := hg1.trans hal
  clear lt0 c0 c1 c2 c3 c4 hal hg1
  generalize w2.alloc (.cells #[.int .i64 a, .int .i64 b, .int .i64 c, .int .i64 d, .int .i64 e] 25) = W at *
  generalize w2.heap.size = X at *
  have Hb2 := Lib.hid hb2
  have Hb3 := Lib.hid hb3
  have Hg2 := Lib.hid hg2
  obtain ⟨xlt, x0, x1, x2, x3, x4⟩ := hb3
  clear hb2 hg2 xlt
  cases g with
  | false =>
    clear Hr
    go_wp2_with (go_at_call 9; refine (Hgd.out _).mono ?_; rintro x w6 ⟨rfl, h6⟩; have H6 := Lib.hid h6; clear h6)
    go_ret
    exact ⟨rfl, (Hg2.out.trans H6.out).below⟩
  | true =>
    have r := Hr.out rfl
    have R := Lib.hid r
    clear Hr r
    go_upto_region 6 with (go_at_call 9; refine (Hgd.out _).mono ?_; rintro x w0 ⟨rfl, h6⟩; have Hg6 : Hid (Gw w w0) := Hg2.out.trans h6; have Hb7 : Hid (Tb w0 T a b c d e) := Hb2.out.gw h6; have Hb8 : Hid (Tb w0 X a b c d e) := Hb3.out.gw h6; clear x0 x1 x2 x3 x4 Hg2 Hb2 Hb3 h6)
    clear Hgd
    have hsz : T ≤ w0.heap.size := by have := Hg6.out.size; rw [HT.out] at this; exact this
    have HSZ := Lib.hid hsz
    clear hsz
    generalize hBs : w0.heap.size = Bs at *
    have HBs := Lib.hid hBs
    clear hBs
    go_wp2_with fail
    go_loopw [6, 7, 8, 9] (fun v6 v7 v8 v9 wr => ∃ (k : Nat) (S : Int) (o : Bool), k ≤ len ∧ k ≤ 40 ∧ v6 = .int .i64 S ∧ v7 = .bool o ∧ v9 = .int .i64 (k : Int) ∧ Hid (Sumd a b c d e f k S o) ∧ Hid (wr.ownsRow Bs 33 4 v8 k (rows f k)) ∧ Hid (Below Bs w0 wr)) (fun _ _ _ v9 _ => len - (intOf v9).toNat)
    case atStart =>
      refine ⟨0, 0, true, by omega, by omega, rfl, rfl, rfl, ⟨fun _ => ⟨fun i hi => (by omega), rfl⟩, fun h => (by cases h), by omega, by omega⟩, World.ownsRow_nil _ _ _ _, ?_⟩
      exact Below.refl _ _
    case round =>
      obtain ⟨k, S, o, hk, hk40, rfl, rfl, rfl, hsum, hown, hbel⟩ := hrel
      have hslo := hsum.out.lo
      have hshi := hsum.out.hi
      by_cases hlt : k < len
      · by_cases h40 : k < 40
        · as_aux_lemma =>
            obtain ⟨B, off, rfl, hB, hp⟩ := Hc.out k hlt
            have hp0 := hp.gw Hg6.out (by rw [HT.out]; exact hB)
            have hBB : B < Bs := Nat.lt_of_lt_of_le hB HSZ.out
            obtain ⟨p0, p1, p2, p3⟩ := hp0.below hbel.out hBB
            have hk0 : (0 : Int) ≤ (k : Int) := by omega
            have hk1 : (k : Int) < (len : Int) := by omega
            have Hp0 := Lib.hid hp0
            have HBB := Lib.hid hBB
            have Hfit := Lib.hid (HF.out k)
            have hst := fun (hy : okk (f k)) (C : Int) (hC : C = cost a b c d e (f k)) => Sumd.step_ok hsum.out R.out (HF.out k) hy C hC
            have hsb := fun (hn : ¬ okk (f k)) => Sumd.step_bad hsum.out hn
            have Hst := Lib.hid hst
            have Hsb := Lib.hid hsb
            have hrw : rows f (k + 1) = rows f k ++ (f k).row := rfl
            have Hrw := Lib.hid hrw
            have hsz0 : Bs ≤ wr.heap.size := by have := hbel.out.size; rw [HBs.out] at this; exact this
            clear hp0 hBB hst hsb hrw hB hp hsum
            generalize f k = q at *
            obtain ⟨kind, dist, pl, pb⟩ := q
            replace p0 : wr.cell? ⟨B, off + k * 4, none⟩ = some (.int .i64 kind) := p0
            replace p1 : wr.cell? ⟨B, off + k * 4 + 1, none⟩ = some (.int .i64 dist) := p1
            replace p2 : wr.cell? ⟨B, off + k * 4 + 2, none⟩ = some (.int .i64 pl) := p2
            replace p3 : wr.cell? ⟨B, off + k * 4 + 3, none⟩ = some (.int .u8 pb) := p3
            go_upto_region 12 with (at_builtin; refine wpList_append_own _ rfl _ _ 31 rfl Bs 33 i0 (.agg #[.int .i64 0, .int .i64 0, .int .i64 0, .int .u8 0]) 4 32 Try.underlying31 Hi.out Hz0.out Hz1.out Hz2.out rfl (by decide) _ _ _ rfl (hown.out.alloc _) ⟨wr.heap.size, 0, none⟩ 1 1 [.int .i64 kind, .int .i64 dist, .int .i64 pl, .int .u8 pb] rfl rfl (World.news_of_block (cs := #[.int .i64 kind, .int .i64 dist, .int .i64 pl, .int .u8 pb]) (t := 33) (fr := (0, 0)) (heap_alloc_new wr _)) (fun x hx => by simp at hx; rcases hx with rfl | rfl | rfl | rfl <;> rfl) (by unfold maxLen; omega) (by omega) (by simp; omega) ?_; intro v' w3 hown' hgrow3 hnil3; have HO : Hid (w3.ownsRow Bs 33 4 v' (k + 1) (rows f (k + 1))) := (by rw [Hrw.out]; exact hown'); have HB3 : Hid (Below Bs w0 w3) := Below.grown (hbel.out.alloc hsz0 _) hgrow3 (by simp; omega) (fun j hj => by have := (hown.out.lt _ hj).1; omega); clear hown' hgrow3 hnil3 p0 p1 p2 p3 hown hbel)
            obtain ⟨p0, p1, p2, p3⟩ := Hp0.out.below HB3.out HBB.out
            replace p0 : w3.cell? ⟨B, off + k * 4, none⟩ = some (.int .i64 kind) := p0
            replace p1 : w3.cell? ⟨B, off + k * 4 + 1, none⟩ = some (.int .i64 dist) := p1
            replace p2 : w3.cell? ⟨B, off + k * 4 + 2, none⟩ = some (.int .i64 pl) := p2
            clear p3
            have hT3 : Tb w3 T a b c d e := Hb7.out.below HB3.out (by have := Hb7.out.lt; rw [HBs.out] at this; exact this) HB3.out.size
            have HT3 := Lib.hid hT3
            obtain ⟨tlt, t0, t1, t2, t3, t4⟩ := hT3
            by_cases k1 : kind = 1
            · subst k1
              have hC : a = cost a b c d e ⟨1, dist, pl, pb⟩ := by unfold cost; rw [if_pos rfl]
              have hsum' := Lib.hid (Hst.out (.inl rfl) a hC)
              have hr1 := R.out.a
              have hmm : IntKind.i64.wrap (S + a) = S + a := IntWalk.i64_in _ (by omega)
              clear hC Hst Hsb t1 t2 t3 t4 p1 p2
              go_wp2
              go_roundw
              case rel => exact ⟨k + 1, S + a, o, by omega, by omega, rfl, rfl, by go_num, hsum', HO, HB3⟩
              case measure => simp [intOf]; omega
            · have k1' : (kind == 1) = false := by simpa using k1
              by_cases k2 : kind = 2
              · subst k2
                obtain ⟨M, hM⟩ : ∃ M, mt b c d e ⟨2, dist, pl, pb⟩ = M := ⟨_, rfl⟩
                have hC : M = cost a b c d e ⟨2, dist, pl, pb⟩ := by unfold cost; rw [if_neg k1, hM]
                have hsum' := Lib.hid (Hst.out (.inr rfl) M hC)
                have hmr := mt_range R.out ⟨2, dist, pl, pb⟩ Hfit.out
                rw [hM] at hmr
                have hmm : IntKind.i64.wrap (S + M) = S + M := IntWalk.i64_in _ (by omega)
                have hma := fun w => match_is a b c d e pl dist R.out.b R.out.c R.out.d R.out.e Hfit.out.2 Hfit.out.1 w
                have hM' : b + ln c d pl + e * (dbits dist : Nat) = M := hM
                simp only [hM'] at hma
                have Hma := Lib.hid hma
                have hb3 : B < w3.heap.size := by have := HB3.out.size; have := HBB.out; rw [HBs.out] at *; omega
                have g0 := fun n os => cell_grown (a := ⟨T, 0, none⟩) tlt t0 n os
                have g1 := fun n os => cell_grown (a := ⟨T, 1, none⟩) tlt t1 n os
                have g2 := fun n os => cell_grown (a := ⟨T, 2, none⟩) tlt t2 n os
                have g3 := fun n os => cell_grown (a := ⟨T, 3, none⟩) tlt t3 n os
                have g4 := fun n os => cell_grown (a := ⟨T, 4, none⟩) tlt t4 n os
                have y1 := fun n os => cell_grown (a := ⟨B, off + k * 4 + 1, none⟩) hb3 p1 n os
                have y2 := fun n os => cell_grown (a := ⟨B, off + k * 4 + 2, none⟩) hb3 p2 n os
                clear hC hM hM' hma Hst Hsb hmr
                go_wp2_with fail
                go_quiet_grown (first | (go_at_call 14; exact Calls.grown_of (Hma.out _)))
                go_wp2
                go_roundw
                case rel => exact ⟨k + 1, S + M, o, by omega, by omega, rfl, rfl, by go_num, hsum', own_gw HO.out ((Gw.refl _).grow _ _), below_gw HB3.out (by have := HB3.out.size; rw [HBs.out] at this; exact this) ((Gw.refl _).grow _ _)⟩
                case measure => simp [intOf]; omega
              · have k2' : (kind == 2) = false := by simpa using k2
                have hsum' := Lib.hid (Hsb.out (fun h => h.elim k1 k2))
                clear Hst Hsb t0 t1 t2 t3 t4 p1 p2
                go_wp2
                go_roundw
                case rel => exact ⟨k + 1, S, false, by omega, by omega, rfl, rfl, by go_num, hsum', HO, HB3⟩
                case measure => simp [intOf]; omega
        ·
          as_aux_lemma =>
            have hlt' : decide ((k : Int) < (len : Int)) = true := by simp; omega
            have hX3 : Tb wr X a b c d e := Hb8.out.below hbel.out (by have := Hb8.out.lt; rw [HBs.out] at this; exact this) hbel.out.size
            obtain ⟨xlt, x0, x1, x2, x3, x4⟩ := hX3
            have hsz0 : Bs ≤ wr.heap.size := by have := hbel.out.size; rw [HBs.out] at this; exact this
            have HS0 := Lib.hid hsz0
            clear hsz0 hslo hshi
            cases o with
            | true =>
              have hg := hsum.out.good rfl
              have hof := of_own a b c d e R.out f HF.out Bs k _ hk40 S true (.inl ⟨hg.1, hg.2, rfl⟩) _ hown.out
              have Hof := Lib.hid hof
              clear hg hof hsum
              go_wp2_with (go_at_call 15; refine Hof.out.mono ?_; rintro x w9 ⟨rfl, h9⟩; have H9 := Lib.hid h9; clear h9)
              go_ret
              exact ⟨by simp, below_trans Hg6.out.below (by rw [HT.out]; exact HSZ.out) (below_gw hbel.out HS0.out H9.out)⟩
            | false =>
              have hg := hsum.out.bad rfl
              have hof := of_own a b c d e R.out f HF.out Bs k _ hk40 0 false (.inr ⟨hg, rfl, rfl⟩) _ hown.out
              have Hof := Lib.hid hof
              clear hg hof hsum
              go_wp2_with (go_at_call 15; refine Hof.out.mono ?_; rintro x w9 ⟨rfl, h9⟩; have H9 := Lib.hid h9; clear h9)
              go_ret
              exact ⟨by simp, below_trans Hg6.out.below (by rw [HT.out]; exact HSZ.out) (below_gw hbel.out HS0.out H9.out)⟩
      ·
        as_aux_lemma =>
          have hlt' : decide ((k : Int) < (len : Int)) = false := by simp; omega
          have hX3 : Tb wr X a b c d e := Hb8.out.below hbel.out (by have := Hb8.out.lt; rw [HBs.out] at this; exact this) hbel.out.size
          obtain ⟨xlt, x0, x1, x2, x3, x4⟩ := hX3
          have hsz0 : Bs ≤ wr.heap.size := by have := hbel.out.size; rw [HBs.out] at this; exact this
          have HS0 := Lib.hid hsz0
          clear hsz0 hslo hshi
          cases o with
          | true =>
            have hg := hsum.out.good rfl
            have hof := of_own a b c d e R.out f HF.out Bs k _ hk40 S true (.inl ⟨hg.1, hg.2, rfl⟩) _ hown.out
            have Hof := Lib.hid hof
            clear hg hof hsum
            go_wp2_with (go_at_call 15; refine Hof.out.mono ?_; rintro x w9 ⟨rfl, h9⟩; have H9 := Lib.hid h9; clear h9)
            go_ret
            exact ⟨by simp, below_trans Hg6.out.below (by rw [HT.out]; exact HSZ.out) (below_gw hbel.out HS0.out H9.out)⟩
          | false =>
            have hg := hsum.out.bad rfl
            have hof := of_own a b c d e R.out f HF.out Bs k _ hk40 0 false (.inr ⟨hg, rfl, rfl⟩) _ hown.out
            have Hof := Lib.hid hof
            clear hg hof hsum
            go_wp2_with (go_at_call 15; refine Hof.out.mono ?_; rintro x w9 ⟨rfl, h9⟩; have H9 := Lib.hid h9; clear h9)
            go_ret
            exact ⟨by simp, below_trans Hg6.out.below (by rw [HT.out]; exact HSZ.out) (below_gw hbel.out HS0.out H9.out)⟩
end Go.Proofs.Ytlkiijojldnlbaa
