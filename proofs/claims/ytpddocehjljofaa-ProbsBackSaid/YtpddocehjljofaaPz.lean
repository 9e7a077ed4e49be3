/- Layer 4 (probs): a byte is got beside another one. -/
import Derived.Test.YtpddocehjljofaaPy
namespace Go.Proofs.Ytpddocehjljofaa
set_option linter.unusedVariables false
open Go.RowKit Go.My

/-- What stands while a byte's bits are got. -/
structure GlSt (w wr : World) (p b : Nat) (L : Nat) (o : Nat) (R : List Nat × Rc.D × List Nat × Rc.Lk) (d : Rc.D) (t : List Nat) (s : Rc.Lk) (j : Nat) : Prop where
  dec : DecAt wr p d
  g : DecG d
  tr : TrAt wr b t
  pl : Rc.Pl t L
  fin : (Rc.getL o d t s j).2 = R.2
  fr : Fr (fun k => k = p ∨ k = b) w wr
  ne : b ≠ p
  oldp : p < w.heap.size
  oldb : b < w.heap.size
theorem GlSt.like {w wr w' : World} {p b o q : Nat} {L : Nat} {R : List Nat × Rc.D × List Nat × Rc.Lk} {d : Rc.D} {t : List Nat} {s : Rc.Lk} {j : Nat} (h : GlSt w wr p b L o R d t s j) (hn : w.heap.size ≤ q) (hf : Fr (one q) wr w') : GlSt w w' p b L o R d t s j := by
  have h1 := h.oldp
  have h2 := h.oldb
  exact ⟨h.dec.keep hf (by show ¬ p = q; omega), h.g, h.tr.keep hf (by show ¬ b = q; omega), h.pl, h.fin, h.fr.trans hf (fun k hk => by cases hk; exact .inr hn), h.ne, h.oldp, h.oldb⟩
theorem GlSt.next {w wr w' : World} {p b o : Nat} {L : Nat} {R : List Nat × Rc.D × List Nat × Rc.Lk} {d : Rc.D} {t : List Nat} {s : Rc.Lk} {j : Nat} (h : GlSt w wr p b L o R d t s (j + 1)) (hm : s.at_ o < L)
    (he : DecAt w' p (d.bit (t.getD (s.at_ o) 0)).2) (hs : Fr (one p) (wr.setCell ⟨b, s.at_ o, none⟩ (.int .u16 (Rc.learn (t.getD (s.at_ o) 0) (d.bit (t.getD (s.at_ o) 0)).1 : Nat))) w') : GlSt w w' p b L o R (d.bit (t.getD (s.at_ o) 0)).2 (t.set (s.at_ o) (Rc.learn (t.getD (s.at_ o) 0) (d.bit (t.getD (s.at_ o) 0)).1)) (s.next o (d.bit (t.getD (s.at_ o) 0)).1) j := by
  have hpo := h.pl.ok (s.at_ o) (by rw [h.pl.len]; exact hm)
  refine ⟨he, h.g.bit hpo, (h.tr.set _ _).keep hs h.ne, h.pl.set _ _ (hpo.learn _), h.fin, ?_, h.ne, h.oldp, h.oldb⟩
  exact (h.fr.setCell ⟨b, s.at_ o, none⟩ _ (.inl (.inr rfl))).trans hs (fun k hk => .inl (.inl hk))
theorem GlSt.done {w wr : World} {p b o : Nat} {L : Nat} {R : List Nat × Rc.D × List Nat × Rc.Lk} {d : Rc.D} {t : List Nat} {s : Rc.Lk} (h : GlSt w wr p b L o R d t s 0) : GetPost w p b L R.2.1 R.2.2.1 wr ∧ s = R.2.2.2 := by
  have h2 := h.fin
  obtain ⟨r0, r1, r2, r3⟩ := R
  simp only [Rc.getL, Prod.mk.injEq] at h2
  obtain ⟨rfl, rfl, rfl⟩ := h2
  exact ⟨⟨h.dec, h.g, h.tr, h.pl, h.fr⟩, rfl⟩

set_option maxHeartbeats 4000000 in
set_option maxRecDepth 10000 in
theorem get_like (p : Nat) (d : Rc.D) (b : Nat) (t : List Nat) (L M cap o : Nat) (w : World) (h : DecAt w p d) (hg : DecG d) (ht : TrAt w b t) (hp : Rc.Pl t L) (hM : 768 ≤ M) (hML : M ≤ L) (ho : o < 256) :
    Calls Try.prog 46 #[.pointer (some ⟨p, 0, none⟩), .slice (some ⟨b, 0, none⟩) M cap, .int .u8 (o : Int)] w fun r w' => r = .returned (.int .u8 (((Rc.getL o d t Rc.Lk.start 8).2.2.2.m % 256 : Nat) : Int)) ∧ GetPost w p b L (Rc.getL o d t Rc.Lk.start 8).2.1 (Rc.getL o d t Rc.Lk.start 8).2.2.1 w' := by
  have hst : GlSt w w p b L o (Rc.getL o d t Rc.Lk.start 8) d t Rc.Lk.start 8 := ⟨h, hg, ht, hp, rfl, Fr.refl _ _, h.away ht, lt_of_block h.blk, lt_of_block ht⟩
  obtain ⟨R, hR⟩ : ∃ R, Rc.getL o d t Rc.Lk.start 8 = R := ⟨_, rfl⟩
  rw [hR] at hst ⊢
  have hlk : LkAt (w.alloc (.cells #[.int .i64 1, .int .i64 256, .int .i64 (o : Int)] 128)) w.heap.size Rc.Lk.start.m (Half Rc.Lk.start) (o * 2 ^ (8 - 8)) := by
    have := heap_alloc_new w (.cells #[.int .i64 1, .int .i64 256, .int .i64 (o : Int)] 128)
    unfold LkAt
    rw [this]
    simp [Rc.Lk.start, Half]
  have Hst := Lib.hid (hst.like (w' := w.alloc (.cells #[.int .i64 1, .int .i64 256, .int .i64 (o : Int)] 128)) (Nat.le_refl _) ((Fr.refl (one w.heap.size) _).alloc _))
  have HM := Lib.hid hM
  have HML := Lib.hid hML
  have Hlk := Lib.hid hlk
  clear h hg ht hp hst hM hML hlk hR
  have hoi : (o : Int) < 256 := by omega
  go_enter Try.func46, Try.ntmps46
  go_wp2
  go_loopw [12] (fun v12 wr => ∃ (i j : Nat) (s : Rc.Lk) (d' : Rc.D) (t' : List Nat), i + j = 8 ∧ v12 = .int .i64 (i : Int) ∧ s.m < 512 ∧ Hid (s.Room j) ∧ Hid (LkAt wr w.heap.size s.m (Half s) (o * 2 ^ (8 - j))) ∧ Hid (GlSt w wr p b L o R d' t' s j)) (fun v12 _ => (8 - intOf v12).toNat)
  case atStart => exact ⟨0, 8, Rc.Lk.start, d, t, by omega, rfl, by decide, Rc.Lk.Room.start, Hlk.out, Hst.out⟩
  case round =>
    obtain ⟨i, j, s, d', t', hq, rfl, hmb, Hr, HL, HS⟩ := hrel
    rcases j with _ | j
    · obtain rfl : i = 8 := by omega
      obtain ⟨hpost, hm⟩ := HS.out.done
      have Hp := Lib.hid hpost
      have Hm := Lib.hid hm
      have c0 : wr.cell? ⟨w.heap.size, 0, none⟩ = some (.int .i64 (s.m : Int)) := (cell_of HL.out 0).trans rfl
      clear hq hpost hm
      go_wp2
      go_ret
      exact ⟨by rw [← Hm.out]; simp, Hp.out⟩
    · have hm7 : s.at_ o < 768 := (Hr.out.lt o).1
      have hsm : s.m < 256 := (Hr.out.lt o).2
      obtain ⟨C, K, hnum⟩ := lkNum o j s ho (by omega) Hr.out.k
      have Hnum := Lib.hid hnum
      have hml : s.at_ o < L := by have := HML.out; have := HM.out; omega
      have Hml := Lib.hid hml
      have hmi : ((s.at_ o : Nat) : Int) < (M : Int) := by have := HM.out; omega
      have hat := like_at w.heap.size s.m (Half s) (o * 2 ^ (8 - (j + 1))) C K wr HL.out (by omega) (half_le s) hnum.hK (by have := lk_small o (j + 1) ho; omega) (by rw [(lk_num o j (by omega)).1]; exact hnum.hA) hnum.hB
      rw [(lk_num o j (by omega)).1, hnum.at_] at hat
      have Hat := Lib.hid hat
      have hpo := HS.out.pl.ok (s.at_ o) (by rw [HS.out.pl.len]; exact hml)
      have Hpo := Lib.hid hpo
      obtain ⟨c, hcc⟩ : ∃ c, (d'.bit (t'.getD (s.at_ o) 0)).1 = c := ⟨_, rfl⟩
      have hb2 : c < 2 := by rw [← hcc]; unfold Rc.D.bit; split <;> simp
      have Hcc := Lib.hid hcc
      have hci : (c : Int) < 2 := by omega
      have Hb2 := Lib.hid hb2
      have Hr2 : Hid ((s.next o c).Room j) := Hr.out.next o hb2
      have hii : (i : Int) < 8 := by omega
      obtain ⟨a, ha⟩ : ∃ a, s.at_ o = a := ⟨_, rfl⟩
      have Ha := Lib.hid ha
      rw [ha] at hmi Hat
      have Hq := Lib.hid hq
      clear hq hb2 hcc hat hpo hnum hml ha
      go_wp2_with (first
        | (go_at_call 75; refine Hat.out.mono ?_; rintro r1 w1 ⟨rfl, h1, h2⟩; have HL1 := Lib.hid h1; have HS1 := Lib.hid (HS.out.like (Nat.le_refl _) h2); have hc1 := HS1.out.tr.get (k := s.at_ o) (by rw [HS1.out.pl.len]; exact Hml.out); have hd := dec_bit p d' b (s.at_ o) (t'.getD (s.at_ o) 0) w1 HS1.out.dec HS1.out.g Hpo.out hc1 (free_of HS1.out.tr _) HS1.out.ne; rw [Hcc.out, Ha.out] at hd; have Hd := Lib.hid hd; clear h1 h2 hc1 hd)
        | (go_at_call 28; refine Hd.out.mono ?_; rintro r5 w5 ⟨rfl, h1, h2⟩; rw [← Ha.out, ← Hcc.out] at h2; rw [← Ha.out] at h1; have HS5 := Lib.hid (HS1.out.next Hml.out h1 h2); have hL5 := h2.keep (block_setCell_other (w := w1) HL1.out (by have := HS1.out.oldb; omega) _) (by show ¬ w.heap.size = p; have := HS1.out.oldp; omega); have hst := like_step w.heap.size s.m (Half s) (o * 2 ^ (8 - j)) C c w5 hL5 (by omega) Hb2.out Hnum.out.hA (by rw [Hnum.out.hC]; have : s.bit o < 2 := Nat.mod_lt _ (by decide); omega); rw [Hnum.out.next] at hst; rw [Hcc.out] at HS5; have Hst2 := Lib.hid hst; have HL5 := Lib.hid hL5; clear h1 h2 hL5 hst)
        | (go_at_call 76; refine Hst2.out.mono ?_; rintro r6 w6 ⟨rfl, h1, h2⟩; have HL6 := Lib.hid h1; have HS6 := Lib.hid (HS5.out.like (Nat.le_refl _) h2); clear h1 h2))
      go_roundw
      case rel => exact ⟨i + 1, j, _, _, _, by have := Hq.out; omega, by go_num, by show 2 * s.m + c < 512; omega, Hr2, HL6, HS6⟩
      case measure => simp [intOf]; omega
end Go.Proofs.Ytpddocehjljofaa
