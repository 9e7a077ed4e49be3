/- Walks of layer 08 (bst): a place is hung. -/
import Derived.Test.YtjdmkffhhlijnaaBs1
namespace Go.Proofs.Ytjdmkffhhlijnaa
set_option linter.unusedVariables false
open Go.RowKit Go.My Go.Ch Go.Bs

theorem stepA_small (l : List UInt8) (i d : Nat) (h : Nat × List (Nat × Nat)) (h1 : h.1 ≤ 273) (h2 : h.2.length + 1 ≤ h.1) : (stepA l i d h).1 ≤ 273 ∧ (stepA l i d h).2.length + 1 ≤ (stepA l i d h).1 := by
  unfold stepA
  have := alike_le l (i - d) i
  split
  · refine ⟨?_, ?_⟩
    · show alike l (i - d) i ≤ 273
      unfold most at this; omega
    · show (h.2 ++ [(alike l (i - d) i, d)]).length + 1 ≤ alike l (i - d) i
      simp only [List.length_append, List.length_cons, List.length_nil]; omega
  · exact ⟨h1, h2⟩
theorem path_nil (l : List UInt8) (win : Int) (i : Nat) : path l win i .nil = [] := rfl
theorem path_far (l : List UInt8) (win : Int) (i c : Nat) (a b : T) (h : win < (i : Int) - (c : Int)) : path l win i (.node c a b) = [] := by simp only [path]; rw [if_pos h]
theorem split_far (l : List UInt8) (win : Int) (i c : Nat) (a b : T) (h : win < (i : Int) - (c : Int)) : split l win i (.node c a b) = (.nil, .nil) := by simp only [split]; rw [if_pos h]

set_option maxHeartbeats 8000000 in
set_option maxRecDepth 100000 in
theorem hang_is {w : World} {B p gl gm : Nat} {s : ByteArray} {win : Int} {pl : Nat} {top : Int} {L M : Nat → Int} (h : FinT w B p gl gm s win pl top L M) (hs : s.size ≤ 1000) {i : Nat} (hi : i < s.size) (hr : Rep L M (tree s.data.toList win i) top)
    {B2 gb go gi : Nat} {v : Value} (H : Met w B2 gb go gi i (1, []) v) (hB2 : p < B2 ∧ gl < B2 ∧ gm < B2) :
    Calls Try.prog 21 #[.pointer (some ⟨p, 0, none⟩), .int .i64 (i : Int), .func (.func 22) #[] #[.pointer (some ⟨gb, 0, none⟩), .pointer (some ⟨go, 0, none⟩), .pointer (some ⟨gi, 0, none⟩)]] w fun e w' =>
      e = .returned (.tuple #[]) ∧ (∃ L' M', FinT w' B p gl gm s win pl (i : Int) L' M' ∧ Rep L' M' (tree s.data.toList win (i + 1)) (i : Int)) ∧ (∃ v', Met w' B2 gb go gi i (allH s.data.toList i (lim i win)) v') ∧ Fr (fun k => k = p ∨ k = gl ∨ k = gm ∨ B2 ≤ k) w w' := by
  obtain ⟨l, hl⟩ : ∃ l, s.data.toList = l := ⟨_, rfl⟩
  have hsz : s.size = l.length := by rw [← hl]; simp
  have hat : ∀ j (h : j < s.size), s[j] = l.getD j 0 := fun j h => by rw [← hl]; exact str_at s j h
  rw [hl] at hr ⊢
  obtain ⟨A, hA⟩ : ∃ A, allH l i (lim i win) = A := ⟨_, rfl⟩
  have hvis := visit_tree l win i
  rw [hA] at hvis ⊢
  obtain ⟨mo, hmo⟩ : ∃ M, most l i = M := ⟨_, rfl⟩
  have hmd : mo = min (s.size - i) 273 := by rw [← hmo, hsz]; rfl
  have hpend := pend_start h.ne hr (l := l) (win := win) (i := i)
  have c0 : w.cell? ⟨p, 0, none⟩ = some (.string s) := cell_of h.blk 0
  have c3 : w.cell? ⟨p, 3, none⟩ = some (.int .i64 top) := cell_of h.blk 3
  have c4 : w.cell? ⟨p, 4, none⟩ = some (.slice (some ⟨gl, 0, none⟩) s.size s.size) := cell_of h.blk 4
  have c5 : w.cell? ⟨p, 5, none⟩ = some (.slice (some ⟨gm, 0, none⟩) s.size s.size) := cell_of h.blk 5
  have f3 := free_of h.blk 3
  have hi0 : (0 : Int) ≤ (i : Int) := by omega
  have hiI : (i : Int) < (s.size : Int) := by omega
  have hne := h.ne
  have hd := (h.fresh (Fr.refl (fun _ => False) w).drew).top_ i
  obtain ⟨V, hV⟩ : ∃ V, w.drew.setCell ⟨p, 3, none⟩ (.int .i64 (i : Int)) = V := ⟨_, rfl⟩
  have hV' : (w.setCell ⟨p, 3, none⟩ (.int .i64 (i : Int))).drew = V := by rw [← hV]; rfl
  have hfm : Fr (fun k => k = p ∨ k = gl ∨ k = gm ∨ B2 ≤ k) w V := by rw [← hV]; exact ((Fr.refl _ w).drew).setCell _ _ (.inl (.inl rfl))
  have hMV : Met V B2 gb go gi i (1, []) v := by
    rw [← hV]
    exact H.keep (S := fun k => k = p) (((Fr.refl _ w).drew).setCell _ _ (.inl rfl)) (fun k hk => by subst hk; exact hB2.1)
  rw [hV] at hd
  have HV := Lib.hid hV
  have HV' := Lib.hid hV'
  have FA := Lib.hid hd
  have FM := Lib.hid hMV
  have FF := Lib.hid hfm
  have HP := Lib.hid hpend
  have HVis := Lib.hid hvis
  have Hat := Lib.hid hat
  have Hmo := Lib.hid hmo
  have Hmd := Lib.hid hmd
  have HB2 := Lib.hid hB2
  have HA := Lib.hid hA
  have Hl := Lib.hid hl
  have Hne := Lib.hid hne
  clear hmd hV hV' hd hMV hfm hpend hvis hat hmo hB2 hA hl hsz h H hr hne
  have hsiI : (0 : Int) ≤ (s.size : Int) - (i : Int) := by omega
  rcases Nat.lt_or_ge 273 (s.size - i) with hc | hc
  case' inl => have hcI : (273 : Int) < (s.size : Int) - (i : Int) := by omega
  case' inr => have hcI : ¬ ((273 : Int) < (s.size : Int) - (i : Int)) := by omega
  all_goals
    go_enter Try.func21, Try.ntmps21
    go_upto_region 0 with fail
    go_region
    go_upto_block 0 with fail
  all_goals first
    | (have e : (273 : Int) = (mo : Int) := by { have := Hmd.out; omega }
       rw [e]
       clear e)
    | (have e : (s.size : Int) - (i : Int) = (mo : Int) := by { have := Hmd.out; omega }
       rw [e]
       clear e)
  all_goals
    rw [HV'.out]
    clear c0 c3 c4 c5 f3 hsiI hcI hc
    go_wp2
    go_loopw [6, 7, 9, 10] (fun v6 v7 v9 _ wr => ∃ (t : T) (L' M' : Nat → Int) (H1 x1 H2 x2 : Nat) (hh : Nat × List (Nat × Nat)) (v' : Value) (k : Int), v6 = .pointer (some ⟨H1, x1, none⟩) ∧ v7 = .pointer (some ⟨H2, x2, none⟩) ∧ v9 = .int .i64 k ∧ Hid (Pend l win i gl gm L' M' H1 x1 H2 x2 t k) ∧ Hid (visit l i (path l win i t) hh = A) ∧ Hid (hh.1 ≤ 273 ∧ hh.2.length + 1 ≤ hh.1) ∧ Hid (FinT wr B p gl gm s win pl (i : Int) L' M') ∧ Hid (Met wr B2 gb go gi i hh v') ∧ Hid (Fr (fun k => k = p ∨ k = gl ∨ k = gm ∨ B2 ≤ k) w wr)) (fun _ _ v9 _ _ => (intOf v9 + 1).toNat)
    case atStart => exact ⟨_, L, M, gl, i, gm, i, (1, []), v, top, rfl, rfl, rfl, HP, HVis, ⟨by decide, by decide⟩, FA, FM, FF⟩
    case round =>
      obtain ⟨t, L1, M1, H1, x1, H2, x2, hh, v', k, rfl, rfl, rfl, KP, KV, KS, KA, KM, KF⟩ := hrel
      clear FA FM FF HP HVis
      have hb1 := KP.out.b1
      have hb2 := KP.out.b2
      have hx1i : x1 < s.size := by have := KP.out.i1; omega
      have hx2i : x2 < s.size := by have := KP.out.i2; omega
      have hpn1 : p ≠ H1 := fun e => hb1.elim (fun h => KA.out.npl (e.trans h)) (fun h => KA.out.npm (e.trans h))
      have hpn2 : p ≠ H2 := fun e => hb2.elim (fun h => KA.out.npl (e.trans h)) (fun h => KA.out.npm (e.trans h))
      by_cases hx : k = -1 ∨ win < (i : Int) - k
      · have hsp : (split l win i t).1 = .nil ∧ (split l win i t).2 = .nil ∧ path l win i t = [] := by
          by_cases hk : k = -1
          · have := pend_nil KP.out hk
            subst this
            exact ⟨rfl, rfl, rfl⟩
          · obtain ⟨c, a, b, rfl, rfl, _, _, _⟩ := pend_node KP.out hk
            have hw : win < (i : Int) - (c : Int) := hx.resolve_left hk
            rw [split_far _ _ _ _ _ _ hw, path_far _ _ _ _ _ _ hw]
            exact ⟨rfl, rfl, rfl⟩
        have hfill := pend_fill Hne.out KP.out (-1) (-1) (by rw [hsp.1]; exact rfl) (by rw [hsp.2.1]; exact rfl)
        have hhA : hh = A := by have := KV.out; rw [hsp.2.2] at this; exact this
        subst hhA
        have HF := Lib.hid hfill
        obtain ⟨u1, g1⟩ := KA.out.hole hb1 x1 hx1i
        have hA1 := KA.out.put hb1 x1 (-1)
        obtain ⟨u2, g2⟩ := hA1.hole hb2 x2 hx2i
        have hA2 := hA1.put hb2 x2 (-1)
        have FE := Lib.hid hA2
        have ME : Hid (Met ((wr.setCell ⟨H1, x1, none⟩ (.int .i64 (-1))).setCell ⟨H2, x2, none⟩ (.int .i64 (-1))) B2 gb go gi i hh v') := Lib.hid (KM.out.keep (S := fun k => k = gl ∨ k = gm) (((Fr.refl _ wr).setCell _ _ (.inl hb1)).setCell _ _ (.inl hb2)) (fun k hk => hk.elim (fun e => e ▸ HB2.out.2.1) (fun e => e ▸ HB2.out.2.2)))
        have RE : Hid (Fr (fun k => k = p ∨ k = gl ∨ k = gm ∨ B2 ≤ k) w ((wr.setCell ⟨H1, x1, none⟩ (.int .i64 (-1))).setCell ⟨H2, x2, none⟩ (.int .i64 (-1)))) := Lib.hid ((KF.out.setCell _ _ (.inl (hb1.elim (fun e => .inr (.inl e)) (fun e => .inr (.inr (.inl e)))))).setCell _ _ (.inl (hb2.elim (fun e => .inr (.inl e)) (fun e => .inr (.inr (.inl e))))))
        have c1 : wr.cell? ⟨p, 1, none⟩ = some (.int .i64 win) := cell_of KA.out.blk 1
        have hki : k = -1 ∨ ∃ c : Nat, k = (c : Int) ∧ c < i := by
          by_cases hk : k = -1
          · exact .inl hk
          · obtain ⟨c, _, _, _, h1, h2, _⟩ := pend_node KP.out hk
            exact .inr ⟨c, h1, h2⟩
        clear hfill hsp KV KS KP hA1 hA2 KA KM KF hb1 hb2
        rcases hki with hk | ⟨c, hk, hci⟩
        · subst hk
          clear hx
          go_wp2
          go_end0
          exact ⟨rfl, ⟨_, _, FE.out, HF.out⟩, ⟨_, ME.out⟩, RE.out⟩
        · subst hk
          have hw2 : ¬ ((i : Int) - (c : Int) ≤ win) := by rcases hx with h | h <;> omega
          have hq1 : ((c : Int) == -1) = false := by first | (simp; done) | (simp; omega)
          have hq2 : ¬ ((c : Int) = -1) := by omega
          have hq3 : ((c : Int) != -1) = true := by simp [bne, hq1]
          clear hx
          go_wp2
          go_end0
          exact ⟨rfl, ⟨_, _, FE.out, HF.out⟩, ⟨_, ME.out⟩, RE.out⟩
      · obtain ⟨c, a, b, rfl, rfl, hci, hcx1, hcx2⟩ := pend_node KP.out (fun e => hx (.inl e))
        have hw : ¬ win < (i : Int) - (c : Int) := fun e => hx (.inr e)
        have hal := alike_is s hs c i hci (by omega) wr
        rw [Hl.out] at hal
        have hale := alike_le l c i
        obtain ⟨n, hn⟩ : ∃ n, alike l c i = n := ⟨_, rfl⟩
        rw [hn] at hal hale
        have hn273 : n ≤ 273 := by unfold most at hale; omega
        rw [Hmo.out] at hale
        have hcs : c < s.size := by omega
        have hKL := KS.out
        have hmt := fun (W : World) (HM : Met W B2 gb go gi i hh v') => met_is HM l c n hci (by omega) hn (by omega) hn273 hKL.1
        have hst2 := stepA_small l i (i - c) hh hKL.1 hKL.2
        have c0 : wr.cell? ⟨p, 0, none⟩ = some (.string s) := cell_of KA.out.blk 0
        have c1 : wr.cell? ⟨p, 1, none⟩ = some (.int .i64 win) := cell_of KA.out.blk 1
        obtain ⟨h3, hh3⟩ : ∃ h3, stepA l i (i - c) hh = h3 := ⟨_, rfl⟩
        rw [hh3] at hmt hst2
        have hrc : Rep L1 M1 (.node c a b) (c : Int) := KP.out.rep
        have hok := KP.out.ok
        have hra := rep_lt hrc.2.1 (fun x hx => (hok.1 x hx).1)
        have hrb := rep_lt hrc.2.2 (fun x hx => (hok.2.1 x hx).1)
        have hw2 : (i : Int) - (c : Int) ≤ win := by omega
        have hq1 : ((c : Int) == -1) = false := by first | (simp; done) | (simp; omega)
        have hq2 : ¬ ((c : Int) = -1) := by omega
        have hq3 : ((c : Int) != -1) = true := by simp [bne, hq1]
        have Hal := Lib.hid hal
        have Hmt := Lib.hid hmt
        have Hn := Lib.hid hn
        have Hw := Lib.hid hw
        have Hh3 := Lib.hid hh3
        have HS2 := Lib.hid hst2
        have Hrc := Lib.hid hrc
        have Hra := Lib.hid hra
        have Hrb := Lib.hid hrb
        clear hal hmt hn hw hh3 hst2 hKL hrc hok hra hrb hx
        go_upto_region 10 with (first
          | (go_at_call 19; refine Hal.out.mono ?_; rintro e w2 ⟨rfl, h⟩; have A2 := Lib.hid (KA.out.fresh h); have M2 := Lib.hid (KM.out.keep h (fun _ x => x.elim)); have F2 := Lib.hid (KF.out.trans h (fun _ h => h.elim)); clear h)
          | (go_at_call 22; refine (Hmt.out w2 M2.out).mono ?_; rintro e w3 ⟨rfl, ⟨v3, h1⟩, h2⟩; have M3 := Lib.hid h1; have F3 := Lib.hid (F2.out.trans h2 (fun _ h => .inl (.inr (.inr (.inr h))))); have A3 := Lib.hid (A2.out.keep h2 (fun h => absurd HB2.out.1 (Nat.not_lt.2 h)) (fun h => absurd HB2.out.2.1 (Nat.not_lt.2 h)) (fun h => absurd HB2.out.2.2 (Nat.not_lt.2 h))); clear h1 h2))
        clear c0 c1 KA KM KF Hal Hmt A2 M2 F2
        have c0 : w3.cell? ⟨p, 0, none⟩ = some (.string s) := cell_of A3.out.blk 0
        have c4 : w3.cell? ⟨p, 4, none⟩ = some (.slice (some ⟨gl, 0, none⟩) s.size s.size) := cell_of A3.out.blk 4
        have c5 : w3.cell? ⟨p, 5, none⟩ = some (.slice (some ⟨gm, 0, none⟩) s.size s.size) := cell_of A3.out.blk 5
        have cl : w3.cell? ⟨gl, c, none⟩ = some (.int .i64 (L1 c)) := A3.out.cl c hcs
        have cm : w3.cell? ⟨gm, c, none⟩ = some (.int .i64 (M1 c)) := A3.out.cm c hcs
        have hc0 : (0 : Int) ≤ (c : Int) := by omega
        have hcI : (c : Int) < (s.size : Int) := by omega
        obtain ⟨u, hu⟩ : ∃ u, L1 c = u := ⟨_, rfl⟩
        obtain ⟨z, hz⟩ : ∃ z, M1 c = z := ⟨_, rfl⟩
        rw [hu] at cl
        rw [hz] at cm
        have HU := Lib.hid hu
        have HZ := Lib.hid hz
        have Hb1 := Lib.hid hb1
        have Hb2 := Lib.hid hb2
        clear hu hz hb1 hb2
        by_cases hm : mo ≤ n
        · have hmI : (mo : Int) ≤ (n : Int) := by omega
          have hpath : path l win i (.node c a b) = [c] := by
            simp only [path]
            rw [if_neg (Int.not_lt.2 (by have := Hw.out; omega)), if_pos (by rw [Hmo.out, Hn.out]; exact hm)]
          have hsplit : split l win i (.node c a b) = (a, b) := by
            simp only [split]
            rw [if_neg (Int.not_lt.2 (by have := Hw.out; omega)), if_pos (by rw [Hmo.out, Hn.out]; exact hm)]
          have hh3A : h3 = A := by
            have := KV.out
            rw [hpath] at this
            exact Hh3.out.symm.trans this
          subst hh3A
          have hfill := pend_fill Hne.out KP.out u z (by rw [hsplit, ← HU.out]; exact Hrc.out.2.1) (by rw [hsplit, ← HZ.out]; exact Hrc.out.2.2)
          have HF := Lib.hid hfill
          have hne := KP.out.ne
          clear hfill hsplit hpath KV KP
          obtain ⟨u1, g1⟩ := A3.out.hole Hb1.out x1 hx1i
          obtain ⟨u2, g2⟩ := A3.out.hole Hb2.out x2 hx2i
          have hA := (A3.out.put Hb1.out x1 u).put Hb2.out x2 z
          have ME : Hid (Met (((w3.setCell ⟨H1, x1, none⟩ (.int .i64 u)).setCell ⟨H2, x2, none⟩ (.int .i64 z)).drew) B2 gb go gi i h3 v3) := Lib.hid (M3.out.keep (S := fun k => k = gl ∨ k = gm) ((((Fr.refl _ w3).setCell _ _ (.inl Hb1.out)).setCell _ _ (.inl Hb2.out)).drew) (fun k hk => hk.elim (fun e => e ▸ HB2.out.2.1) (fun e => e ▸ HB2.out.2.2)))
          have RE : Hid (Fr (fun k => k = p ∨ k = gl ∨ k = gm ∨ B2 ≤ k) w (((w3.setCell ⟨H1, x1, none⟩ (.int .i64 u)).setCell ⟨H2, x2, none⟩ (.int .i64 z)).drew)) := Lib.hid (((F3.out.setCell _ _ (.inl (Hb1.out.elim (fun e => .inr (.inl e)) (fun e => .inr (.inr (.inl e)))))).setCell _ _ (.inl (Hb2.out.elim (fun e => .inr (.inl e)) (fun e => .inr (.inr (.inl e)))))).drew)
          have FE := Lib.hid (hA.fresh (Fr.refl (fun _ => False) _).drew)
          have hne2 : ¬ (H2 = H1 ∧ x2 = x1) := fun e => hne ⟨e.1.symm, e.2.symm⟩
          clear hA A3 M3 F3
          go_upto_region 11 with fail
          go_region
          all_goals go_wp2
          all_goals refine bodyPost_ret (results_none rfl _ _ _) rfl ?_
          all_goals exact ⟨rfl, ⟨_, _, FE.out, HF.out⟩, ⟨_, ME.out⟩, RE.out⟩
        · have hmI : ¬ ((mo : Int) ≤ (n : Int)) := by omega
          have hms : ¬ most l i ≤ alike l c i := by rw [Hmo.out, Hn.out]; exact hm
          have hwn : ¬ win < (i : Int) - (c : Int) := Int.not_lt.2 (by have := Hw.out; omega)
          have hmo2 : mo ≤ s.size - i := by have := Hmd.out; omega
          obtain ⟨q1, hq1'⟩ : ∃ q, c + n = q := ⟨_, rfl⟩
          obtain ⟨q2, hq2'⟩ : ∃ q, i + n = q := ⟨_, rfl⟩
          have e1 : IntKind.i64.wrap ((c : Int) + (n : Int)) = (q1 : Int) := by rw [IntWalk.i64_in _ (by omega)]; omega
          have e2 : IntKind.i64.wrap ((i : Int) + (n : Int)) = (q2 : Int) := by rw [IntWalk.i64_in _ (by omega)]; omega
          obtain ⟨x, hxx⟩ : ∃ x, l.getD q1 0 = x := ⟨_, rfl⟩
          obtain ⟨y, hyy⟩ : ∃ y, l.getD q2 0 = y := ⟨_, rfl⟩
          have i1 : ∀ U, (Instr.index 9 (.string s) (.int .i64 (q1 : Int))).run Try.prog U = .ok (.int .u8 (x.toNat : Int)) U := str_index s q1 (by omega) _ rfl _ (by rw [Hat.out, hxx])
          have i2 : ∀ U, (Instr.index 9 (.string s) (.int .i64 (q2 : Int))).run Try.prog U = .ok (.int .u8 (y.toNat : Int)) U := str_index s q2 (by omega) _ rfl _ (by rw [Hat.out, hyy])
          have hd1 : l.getD (c + alike l c i) 0 = x := by rw [Hn.out, hq1', hxx]
          have hd2 : l.getD (i + alike l c i) 0 = y := by rw [Hn.out, hq2', hyy]
          by_cases hlt : x < y
          · have hltI : (x.toNat : Int) < (y.toNat : Int) := by have := UInt8.lt_iff_toNat_lt.1 hlt; omega
            have hnext := pend_less Hne.out KP.out hwn hms (by rw [hd1, hd2]; exact hlt)
            have hvn : visit l i (path l win i b) h3 = A := by
              have := KV.out
              simp only [path] at this
              rw [if_neg hwn, if_neg hms, hd1, hd2, if_pos hlt] at this
              rw [← Hh3.out]
              exact this
            rw [HZ.out] at hnext
            have HN := Lib.hid hnext
            have HVn := Lib.hid hvn
            obtain ⟨u1, g1⟩ := A3.out.hole Hb1.out x1 hx1i
            have hA := (A3.out.put Hb1.out x1 (c : Int)).fresh (Fr.refl (fun _ => False) _).drew
            obtain ⟨U, hU⟩ : ∃ U, (w3.setCell ⟨H1, x1, none⟩ (.int .i64 (c : Int))).drew = U := ⟨_, rfl⟩
            have ME : Hid (Met ((w3.setCell ⟨H1, x1, none⟩ (.int .i64 (c : Int))).drew) B2 gb go gi i h3 v3) := Lib.hid (M3.out.keep (S := fun k => k = gl ∨ k = gm) (((Fr.refl _ w3).setCell _ _ (.inl Hb1.out)).drew) (fun k hk => hk.elim (fun e => e ▸ HB2.out.2.1) (fun e => e ▸ HB2.out.2.2)))
            have RE : Hid (Fr (fun k => k = p ∨ k = gl ∨ k = gm ∨ B2 ≤ k) w ((w3.setCell ⟨H1, x1, none⟩ (.int .i64 (c : Int))).drew)) := Lib.hid ((F3.out.setCell _ _ (.inl (Hb1.out.elim (fun e => .inr (.inl e)) (fun e => .inr (.inr (.inl e)))))).drew)
            rw [hU] at hA ME RE
            have d5 : U.cell? ⟨p, 5, none⟩ = some (.slice (some ⟨gm, 0, none⟩) s.size s.size) := cell_of hA.blk 5
            have dm : U.cell? ⟨gm, c, none⟩ = some (.int .i64 z) := (hA.cm c hcs).trans (by rw [setR_ne (fun e => hcx1 e.2), HZ.out])
            have FE := Lib.hid hA
            have HUe : Hid ((w3.setCell ⟨H1, x1, none⟩ (.int .i64 (c : Int))).drew = U) := hU
            clear hA A3 M3 F3 hnext hvn hms hwn hd1 hd2 hxx hyy hq1' hq2' hm KP KV hU cl cm
            go_upto_region 12 with fail
            go_region
            all_goals go_upto_region 14 with fail
            all_goals rw [HUe.out]
            all_goals clear c0 c4 c5 g1 u1
            all_goals go_wp2
            all_goals go_roundw
            case rel => exact ⟨b, _, _, gm, c, H2, x2, h3, v3, z, rfl, rfl, rfl, HN, HVn, HS2, FE, ME, RE⟩
            case measure => have := Hrb.out; rw [HZ.out] at this; simp [intOf]; omega
          · have hltI : ¬ ((x.toNat : Int) < (y.toNat : Int)) := fun h => hlt (UInt8.lt_iff_toNat_lt.2 (by omega))
            have hnext := pend_more Hne.out KP.out hwn hms (by rw [hd1, hd2]; exact hlt)
            have hvn : visit l i (path l win i a) h3 = A := by
              have := KV.out
              simp only [path] at this
              rw [if_neg hwn, if_neg hms, hd1, hd2, if_neg hlt] at this
              rw [← Hh3.out]
              exact this
            rw [HU.out] at hnext
            have HN := Lib.hid hnext
            have HVn := Lib.hid hvn
            obtain ⟨u2, g2⟩ := A3.out.hole Hb2.out x2 hx2i
            have hA := (A3.out.put Hb2.out x2 (c : Int)).fresh (Fr.refl (fun _ => False) _).drew
            obtain ⟨U, hU⟩ : ∃ U, (w3.setCell ⟨H2, x2, none⟩ (.int .i64 (c : Int))).drew = U := ⟨_, rfl⟩
            have ME : Hid (Met ((w3.setCell ⟨H2, x2, none⟩ (.int .i64 (c : Int))).drew) B2 gb go gi i h3 v3) := Lib.hid (M3.out.keep (S := fun k => k = gl ∨ k = gm) (((Fr.refl _ w3).setCell _ _ (.inl Hb2.out)).drew) (fun k hk => hk.elim (fun e => e ▸ HB2.out.2.1) (fun e => e ▸ HB2.out.2.2)))
            have RE : Hid (Fr (fun k => k = p ∨ k = gl ∨ k = gm ∨ B2 ≤ k) w ((w3.setCell ⟨H2, x2, none⟩ (.int .i64 (c : Int))).drew)) := Lib.hid ((F3.out.setCell _ _ (.inl (Hb2.out.elim (fun e => .inr (.inl e)) (fun e => .inr (.inr (.inl e)))))).drew)
            rw [hU] at hA ME RE
            have d4 : U.cell? ⟨p, 4, none⟩ = some (.slice (some ⟨gl, 0, none⟩) s.size s.size) := cell_of hA.blk 4
            have dl : U.cell? ⟨gl, c, none⟩ = some (.int .i64 u) := (hA.cl c hcs).trans (by rw [setR_ne (fun e => hcx2 e.2), HU.out])
            have FE := Lib.hid hA
            have HUe : Hid ((w3.setCell ⟨H2, x2, none⟩ (.int .i64 (c : Int))).drew = U) := hU
            clear hA A3 M3 F3 hnext hvn hms hwn hd1 hd2 hxx hyy hq1' hq2' hm KP KV hU cl cm
            go_upto_region 12 with fail
            go_region
            all_goals go_upto_region 8 with fail
            all_goals rw [HUe.out]
            all_goals clear c0 c4 c5 g2 u2
            all_goals go_wp2
            all_goals go_roundw
            case rel => exact ⟨a, _, _, H1, x1, gl, c, h3, v3, u, rfl, rfl, rfl, HN, HVn, HS2, FE, ME, RE⟩
            case measure => have := Hra.out; rw [HU.out] at this; simp [intOf]; omega
end Go.Proofs.Ytjdmkffhhlijnaa
