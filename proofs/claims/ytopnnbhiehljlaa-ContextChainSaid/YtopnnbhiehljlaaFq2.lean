/- Layer 5 (freq): a sign is got by a table. -/
import Derived.Test.YtopnnbhiehljlaaFp
namespace Go.Fq
open Go.Rc
theorem T.get_where (t : T) (n : UInt8 → Bool) (d : D) : (d.where_ (t.all_ n + t.rest n)).1 < 4294967296 ∨ True := .inr trivial
/-- What a decoder is handed, where a part of a table was found. -/
theorem where_part {d : D} {total s z : Nat} (hs : s + z ≤ total) (hz : 1 ≤ z) (ht : total ≤ 16777216) (hlo : 16777216 ≤ d.size) (hhi : d.size < 4294967296) :
    1 ≤ (d.where_ total).2.part * z ∧ (d.where_ total).2.part * z < 4294967296 ∧ (d.where_ total).2.part < 4294967296 := by
  have hp : (d.where_ total).2.part = d.size / total := rfl
  rw [hp]
  have h1 : 1 ≤ d.size / total := (Nat.le_div_iff_mul_le (by omega)).2 (by omega)
  have h2 : d.size / total * z ≤ d.size := by
    have h3 : d.size / total * z ≤ d.size / total * total := Nat.mul_le_mul_left _ (by omega)
    have h4 := Nat.div_mul_le_self d.size total
    omega
  have h5 : 1 * 1 ≤ d.size / total * z := Nat.mul_le_mul h1 hz
  have h6 := Nat.div_le_self d.size total
  omega
end Go.Fq
namespace Go.Proofs.Ytopnnbhiehljlaa
set_option linter.unusedVariables false
open Go.RowKit Go.My

set_option maxHeartbeats 4000000 in
set_option maxRecDepth 100000 in
theorem tab_get (p pd : Nat) (d : Rc.D) (t : Fq.T) (v1 v2 nv : Value) (f : Nat → Bool) (m : Nat) (w : World) (h : TabAt w p t v1 v2) (hOk : t.Ok) (hd : DecAt w pd d) (hg : DecG d) (hn : NotAt w nv f m) :
    Calls Try.prog 61 #[.pointer (some ⟨p, 0, none⟩), .pointer (some ⟨pd, 0, none⟩), nv] w fun r w' => r = .returned (.tuple #[.int .u8 ((t.get (bySign f) d).1.1.toNat : Int), .bool (t.get (bySign f) d).1.2]) ∧ DecAt w' pd (t.get (bySign f) d).2 ∧ DecG (t.get (bySign f) d).2 ∧ Fr (one pd) w w' := by
  have hsum := tab_sums p t v1 v2 nv f m w h hOk hn
  have htot := Fq.T.tot_le hOk (bySign f)
  have hrp := Fq.T.rest_pos t (bySign f)
  have hcl := hOk.len
  have hsz := hOk.size
  obtain ⟨A, hA⟩ : ∃ A, t.all_ (bySign f) = A := ⟨_, rfl⟩
  obtain ⟨R, hR⟩ : ∃ R, t.rest (bySign f) = R := ⟨_, rfl⟩
  have hgd : t.get (bySign f) d = if A ≤ (d.where_ (A + R)).1 then ((0, false), (d.where_ (A + R)).2.take A R) else ((t.s.getD (t.find (bySign f) (d.where_ (A + R)).1 t.s.length 0) 0, true), (d.where_ (A + R)).2.take (t.upto (bySign f) (t.find (bySign f) (d.where_ (A + R)).1 t.s.length 0)).1 (t.c.getD (t.find (bySign f) (d.where_ (A + R)).1 t.s.length 0) 0)) := by
    unfold Fq.T.get
    rw [hA, hR]
  have hfind := fun i hi hw hlo => Fq.T.find_in t (bySign f) (d.where_ (A + R)).1 (t.s.length - i) i hi hw hlo
  rw [hA] at hfind
  rw [hA, hR] at hsum htot
  rw [hR] at hrp
  have hwh := dec_where pd d (A + R) w hd hg (by omega) (by omega)
  rw [show ((A + R : Nat) : Int) = (A : Int) + (R : Int) by omega] at hwh
  have hg2 : DecG (d.where_ (A + R)).2 := hg.where_ (A + R)
  have hpt := fun s z (hs : s + z ≤ A + R) (hz : 1 ≤ z) => Fq.where_part (d := d) hs hz (by omega) hg.lo hg.hi
  rw [hgd]
  obtain ⟨W, hW⟩ : ∃ W, (d.where_ (A + R)).1 = W := ⟨_, rfl⟩
  obtain ⟨D2, hD2⟩ : ∃ D2, (d.where_ (A + R)).2 = D2 := ⟨_, rfl⟩
  have hWb : W < 16777216 := by
    rw [← hW]
    show min _ (A + R - 1) < _
    omega
  rw [hW, hD2] at hwh
  rw [hD2] at hg2 hpt
  rw [hW] at hfind
  rw [hW, hD2]
  have hAi : (A : Int) ≤ 30720 := by omega
  have hRi : (R : Int) ≤ 256 := by omega
  have hWi : (W : Int) < 16777216 := by omega
  have Hsum := Lib.hid hsum
  have Hwh := Lib.hid hwh
  have Hg2 := Lib.hid hg2
  have Hpt := Lib.hid hpt
  by_cases hAW : A ≤ W
  · rw [if_pos hAW]
    have hAWi : (A : Int) ≤ (W : Int) := by omega
    have hp := hpt A R (Nat.le_refl _) hrp
    have Hp := Lib.hid hp
    have hR1 : R < 4294967296 := by omega
    have hA1 : A < 4294967296 := by omega
    have HR1 := Lib.hid hR1
    have HA1 := Lib.hid hA1
    clear hsum htot hrp hcl hsz hA hR hgd hfind hwh hg2 hpt hW hD2 hWb hAW hp h hOk hd hg hn hR1 hA1
    go_enter Try.func61, Try.ntmps61
    go_wp2_with (first
      | (go_at_call 64; refine Hsum.out.mono ?_; rintro r w1 ⟨rfl, rfl⟩)
      | (go_at_call 70; refine Hwh.out.mono ?_; rintro r w2 ⟨rfl, h1, h2⟩; have H2 := Lib.hid h2; have ht := dec_take pd D2 A R w2 h1 Hg2.out.len Hp.out.1 Hp.out.2.1 Hp.out.2.2 HA1.out HR1.out; have Ht := Lib.hid ht; clear h1 h2 ht)
      | (go_at_call 71; refine Ht.out.mono ?_; rintro r w3 ⟨rfl, h1, h2⟩; have H1 := Lib.hid h1; have H3 := Lib.hid (one_trans H2.out h2); clear h1 h2))
    go_ret2
    exact ⟨rfl, H1.out, Hg2.out.take Hp.out.1 Hp.out.2.1, H3.out⟩
  · rw [if_neg hAW]
    have hAWd : decide (A ≤ W) = false := by simp; omega
    have hAWe : (W : Int) < (A : Int) := by omega
    have hfi := hfind 0 (by omega) (by omega) (Nat.zero_le _)
    rw [show t.s.length - 0 = t.s.length from rfl] at hfi
    obtain ⟨I, hI⟩ : ∃ I, t.find (bySign f) W t.s.length 0 = I := ⟨_, rfl⟩
    rw [hI] at hfi ⊢
    obtain ⟨hI1, hI2, hI3, hI4⟩ := hfi
    obtain ⟨c0, c1, f0, f1⟩ := h.cells
    obtain ⟨a1, cp1, rfl, ha1⟩ := own_val h.s
    obtain ⟨a2, cp2, rfl, ha2⟩ := own_val h.c
    obtain ⟨g1, rfl⟩ := ha1 (by omega)
    obtain ⟨g2, rfl⟩ := ha2 (by omega)
    have hub := upto_b hOk (bySign f)
    have hpos := hOk.pos
    have hatin := Fq.T.at_in (t := t) (bySign f)
    rw [hA] at hatin
    obtain ⟨L, hL⟩ : ∃ L, t.s.length = L := ⟨_, rfl⟩
    have hos := h.s
    have hoc := h.c
    rw [hL] at hos
    rw [hcl, hL] at hoc c1
    rw [hL] at c0
    have hLi : (L : Int) ≤ 256 := by omega
    have hne1 : pd ≠ p := ne_of_ty hd.blk h.blk (by decide)
    have hnf : ∀ k, tabFoot p (.slice (some ⟨g1, 0, none⟩) L cp1) (.slice (some ⟨g2, 0, none⟩) L cp2) k → k ≠ pd := by
      rintro k (rfl | hk | hk) rfl
      · exact hne1 rfl
      · obtain ⟨cur, hc⟩ := own_ty hos hk; exact ne_of_ty hc hd.blk (by decide) rfl
      · obtain ⟨cur, hc⟩ := own_ty hoc hk; exact ne_of_ty hc hd.blk (by decide) rfl
    have hnn : ∀ k, notFoot nv k → k ≠ pd := by
      intro k hk he
      obtain ⟨cs, hc⟩ := hn.ty hk
      subst he
      exact ne_of_ty hc hd.blk (by decide) rfl
    have hkeep : ∀ w', Fr (one pd) w w' → w'.cell? ⟨p, 0, none⟩ = some (.slice (some ⟨g1, 0, none⟩) L cp1) ∧ w'.cell? ⟨p, 1, none⟩ = some (.slice (some ⟨g2, 0, none⟩) L cp2) ∧ w'.ownsRow 0 5 1 (.slice (some ⟨g1, 0, none⟩) L cp1) L (bytesV t.s) ∧ w'.ownsRow 0 3 1 (.slice (some ⟨g2, 0, none⟩) L cp2) L (intsV t.c) ∧ NotAt w' nv f m := fun w' hf =>
      ⟨hf.cell_ c0 (fun hk => hnf p (.inl rfl) hk), hf.cell_ c1 (fun hk => hnf p (.inl rfl) hk), own_keep hos hf (fun k hk hk2 => hnf k (.inr (.inl hk)) hk2), own_keep hoc hf (fun k hk hk2 => hnf k (.inr (.inr hk)) hk2), hn.keep hf (fun k hk hk2 => hnn k hk hk2)⟩
    have Hkeep := Lib.hid hkeep
    have Hub := Lib.hid hub
    have Hpos := Lib.hid hpos
    have Hat := Lib.hid hatin
    have Hcl := Lib.hid hcl
    have HL := Lib.hid hL
    have HI := Lib.hid hI
    have HI1 := Lib.hid hI1
    have HI2 := Lib.hid hI2
    have HI3 := Lib.hid hI3
    have HI4 := Lib.hid hI4
    have HAWe := Lib.hid hAWe
    clear hsum htot hrp hcl hsz hA hR hgd hfind hwh hg2 hpt hW hD2 hWb hAW h hOk hd hg hn hI hI1 hI2 hI3 hI4 c0 c1 f0 f1 ha1 ha2 hub hpos hatin hL hos hoc hne1 hnf hnn hkeep hWi
    go_enter Try.func61, Try.ntmps61
    go_upto_region 7 with (first
      | (go_at_call 64; refine Hsum.out.mono ?_; rintro r w1 ⟨rfl, rfl⟩)
      | (go_at_call 70; refine Hwh.out.mono ?_; rintro r w2 ⟨rfl, h1, h2⟩; have H1 := Lib.hid h1; have H2 := Lib.hid h2; clear h1 h2))
    obtain ⟨c0, c1, hos, hoc, hn⟩ := Hkeep.out w2 H2.out
    have Hos := Lib.hid hos
    have Hoc := Lib.hid hoc
    have HN := Lib.hid hn
    clear hos hoc hn
    go_wp2
    go_loop [11, 38] (fun v11 v38 => ∃ i a : Nat, i ≤ I ∧ v38 = .int .i64 (i : Int) ∧ v11 = .int .u32 (a : Int) ∧ a ≤ 30720 ∧ Hid ((t.upto (bySign f) i).1 = a) ∧ Hid (t.find (bySign f) W (t.s.length - i) i = I)) (fun _ v38 => L - (intOf v38).toNat)
    case atStart => exact ⟨0, 0, Nat.zero_le _, rfl, rfl, by omega, rfl, HI.out⟩
    case round =>
      obtain ⟨i, a, hi, rfl, rfl, hab, HUi, HF⟩ := hrel
      have hai : (a : Int) ≤ 30720 := by omega
      have hiL0 : i < L := by have := HI1.out; rw [HL.out] at this; omega
      have hi0 : (0 : Int) ≤ (i : Int) := by omega
      have hiL : (i : Int) < (L : Int) := by omega
      have hc : w2.cell? ⟨g1, i, none⟩ = some (.int .u8 ((t.s.getD i 0).toNat : Int)) := by
        rw [World.ownsRow.cellAt Hos.out i (by omega)]
        exact bytesV_get (by rw [HL.out]; exact hiL0)
      have hdd : w2.cell? ⟨g2, i, none⟩ = some (.int .i64 ((t.c.getD i 0 : Nat) : Int)) := by
        rw [World.ownsRow.cellAt Hoc.out i (by omega)]
        exact intsV_get (by rw [Hcl.out, HL.out]; exact hiL0)
      have hps := Hpos.out i (by rw [Hcl.out, HL.out]; exact hiL0)
      have hnx : t.upto (bySign f) (i + 1) = if bySign f (t.s.getD i 0) then t.upto (bySign f) i else ((t.upto (bySign f) i).1 + t.c.getD i 0, (t.upto (bySign f) i).2 + 1) := rfl
      have hub := (Hub.out (i + 1) (by rw [HL.out]; exact hiL0)).1
      have hfx : t.find (bySign f) W (t.s.length - i) i = if !bySign f (t.s.getD i 0) && decide (W < (t.upto (bySign f) i).1 + t.c.getD i 0) then i else t.find (bySign f) W (t.s.length - (i + 1)) (i + 1) := by
        rw [show t.s.length - i = (t.s.length - (i + 1)) + 1 by rw [HL.out]; omega]
        rfl
      rw [HF.out] at hfx
      obtain ⟨b, hb⟩ : ∃ b, t.s.getD i 0 = b := ⟨_, rfl⟩
      obtain ⟨c, hcc⟩ : ∃ c, t.c.getD i 0 = c := ⟨_, rfl⟩
      rw [hb] at hc hnx hfx
      rw [hcc] at hdd hps hnx hfx
      rw [HUi.out] at hfx
      have hhas := set_has nv f m b.toNat w2 HN.out b.toNat_lt
      obtain ⟨y, hy⟩ : ∃ y, b.toNat = y := ⟨_, rfl⟩
      have hyi : (y : Int) < 256 := by have := b.toNat_lt; omega
      have hci : (c : Int) ≤ 120 := by omega
      have hc1 : (1 : Int) ≤ (c : Int) := by omega
      rw [hy] at hc hhas
      have hbs : bySign f b = f y := by unfold bySign; rw [hy]
      rw [hbs] at hnx hfx
      by_cases hf : f y = true
      · rw [hf] at hhas hnx hfx
        have hnx2 : (t.upto (bySign f) (i + 1)).1 = a := by rw [hnx]; exact HUi.out
        have hfx2 : t.find (bySign f) W (t.s.length - (i + 1)) (i + 1) = I := by simpa using hfx.symm
        have hge := (Fq.T.find_ge t (bySign f) W (t.s.length - (i + 1)) (i + 1)).1
        rw [hfx2] at hge
        have Hhas := Lib.hid hhas
        have Hnx := Lib.hid hnx2
        have HF2 := Lib.hid hfx2
        clear hps hnx hub hb hcc hy hbs hf hhas hnx2 hfx hfx2 hi
        go_wp2_with (go_at_call 65; refine Hhas.out.mono ?_; rintro r5 w5 ⟨rfl, rfl⟩)
        go_round
        case rel => exact ⟨i + 1, a, hge, by go_num, rfl, hab, Hnx, HF2⟩
        case measure => simp [intOf]; omega
      · have hff : f y = false := by simpa using hf
        rw [hff] at hhas hnx hfx
        have hnx2 : (t.upto (bySign f) (i + 1)).1 = a + c := by rw [hnx]; simp only [Bool.false_eq_true, if_false]; rw [HUi.out]
        rw [hnx2] at hub
        have Hhas := Lib.hid hhas
        by_cases hwc : W < a + c
        · have hiI : I = i := by simpa [hwc] using hfx
          subst hiI
          have hwci : (W : Int) < (a : Int) + (c : Int) := by omega
          have hpt := Hpt.out a c (by have := Hat.out I (by rw [HL.out]; exact hiL0) HI2.out; rw [HUi.out, hcc] at this; omega) hps.1
          have ht := dec_take pd D2 a c w2 H1.out Hg2.out.len hpt.1 hpt.2.1 hpt.2.2 (by omega) (by omega)
          have Ht := Lib.hid ht
          have HPt := Lib.hid hpt
          have Hb := Lib.hid hb
          have Hcc := Lib.hid hcc
          have Hy := Lib.hid hy
          clear hps hnx hub hb hcc hy hbs hf hff hhas hnx2 hfx hwc hpt ht
          go_wp2_with (first
            | (go_at_call 65; refine Hhas.out.mono ?_; rintro r5 w5 ⟨rfl, rfl⟩)
            | (go_at_call 71; refine Ht.out.mono ?_; rintro r w3 ⟨rfl, h1, h2⟩; have H3 := Lib.hid h1; have H4 := Lib.hid (one_trans H2.out h2); clear h1 h2))
          go_ret2
          dsimp only
          rw [Hb.out, Hcc.out, HUi.out]
          exact ⟨by rw [Hy.out]; rfl, H3.out, Hg2.out.take HPt.out.1 HPt.out.2.1, H4.out⟩
        · have hfx2 : t.find (bySign f) W (t.s.length - (i + 1)) (i + 1) = I := by simpa [hwc] using hfx.symm
          have hge := (Fq.T.find_ge t (bySign f) W (t.s.length - (i + 1)) (i + 1)).1
          rw [hfx2] at hge
          have hwci : ¬ (W : Int) < (a : Int) + (c : Int) := by omega
          have Hnx := Lib.hid hnx2
          have HF2 := Lib.hid hfx2
          clear hps hnx hb hcc hy hbs hf hff hhas hnx2 hfx hfx2 hi hwc
          go_wp2_with (go_at_call 65; refine Hhas.out.mono ?_; rintro r5 w5 ⟨rfl, rfl⟩)
          go_round
          case rel => exact ⟨i + 1, a + c, hge, by go_num, by go_num, hub, Hnx, HF2⟩
          case measure => simp [intOf]; omega
end Go.Proofs.Ytopnnbhiehljlaa
