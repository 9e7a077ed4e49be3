/- Layer 4 (probs): numbers are put by trees, the lowest bit first; numbers are got. -/
import Derived.Test.YtpddocehjljofaaPu
namespace Go.Proofs.Ytpddocehjljofaa
set_option linter.unusedVariables false
open Go.RowKit Go.My

set_option maxHeartbeats 4000000 in
set_option maxRecDepth 10000 in
theorem tree_put_back (p : Nat) (v : Value) (ops : List Rc.Op) (b : Nat) (t : List Nat) (L N M cap x : Nat) (w : World) (h : EncO w p v ops) (hn : ops.length ≤ 90000000) (ht : TrAt w b t) (hp : Rc.Pl t L) (hN : N ≤ 16) (hN1 : 1 ≤ N) (hM : M = 2 ^ N) (hML : M ≤ L) (hx : x < 2147483648) :
    Calls Try.prog 39 #[.slice (some ⟨b, 0, none⟩) M cap, .pointer (some ⟨p, 0, none⟩), .int .i64 (x : Int)] w fun r w' => r = .returned (.tuple #[]) ∧ PutPost w p b v (ops ++ (Rc.putT t 1 (Rc.bitsLo x 0 N)).1) (Rc.putT t 1 (Rc.bitsLo x 0 N)).2.1 w' := by
  have hst := PutSt.start h ht hp (Rc.bitsLo x 0 N)
  obtain ⟨O, hO⟩ : ∃ O, ops ++ (Rc.putT t 1 (Rc.bitsLo x 0 N)).1 = O := ⟨_, rfl⟩
  obtain ⟨F, hF⟩ : ∃ F, (Rc.putT t 1 (Rc.bitsLo x 0 N)).2.1 = F := ⟨_, rfl⟩
  rw [hO, hF] at hst ⊢
  have Hst := Lib.hid hst
  have hb := tree_bits (some ⟨b, 0, none⟩) M cap N hN hM w
  have Hb := Lib.hid hb
  have hroom := Rc.Room.start N hN1
  have Hroom := Lib.hid hroom
  have HM := Lib.hid hM
  have HML := Lib.hid hML
  have Hn := Lib.hid hn
  clear h ht hp hst hb hroom hM hML hn hO hF
  have hNi : (N : Int) ≤ 16 := by omega
  have hN1i : (1 : Int) ≤ (N : Int) := by omega
  go_enter Try.func39, Try.ntmps39
  go_wp2_with (go_at_call 73; refine Hb.out.mono ?_; rintro r w1 ⟨rfl, rfl⟩)
  go_loopw [6, 11] (fun v6 v11 wr => ∃ (i j m : Nat) (l : List Rc.Op) (t' : List Nat) (v' : Value), i + j = N ∧ v11 = .int .i64 (i : Int) ∧ v6 = .int .i64 (m : Int) ∧ Hid (l.length + j ≤ ops.length + N) ∧ Hid (Rc.Room m N j) ∧ Hid (PutSt w wr p b v L O F l t' m (Rc.bitsLo x i j) v')) (fun _ v11 _ => (16 - intOf v11).toNat)
  case atStart => exact ⟨0, N, 1, ops, t, v, by omega, rfl, rfl, Nat.le_refl _, Hroom.out, Hst.out⟩
  case round =>
    obtain ⟨i, j, m, l, t', v', hq, rfl, rfl, Hl, Hr, HS⟩ := hrel
    rcases j with _ | j
    · obtain rfl : i = N := by omega
      clear hq
      go_wp2
      go_end0
      exact ⟨rfl, HS.out.done⟩
    · have hml : m < M := by rw [HM.out]; exact Hr.out.lt
      have hm65 : M ≤ 65536 := by rw [HM.out]; exact (pow2_lt N 16 hN (by omega)).2
      have hmL : m < L := by have := HML.out; omega
      have hmi : (m : Int) < (M : Int) := by omega
      have hmi2 : (m : Int) < 65536 := by omega
      have hii : (i : Int) < (N : Int) := by omega
      have hc := HS.out.tr.get (k := m) (by rw [HS.out.pl.len]; exact hmL)
      have hfz := free_of HS.out.tr m
      have hpo := HS.out.pl.ok m (by rw [HS.out.pl.len]; exact hmL)
      have hxj : x / 2 ^ i < 4294967296 := Nat.lt_of_le_of_lt (Nat.div_le_self _ _) (by omega)
      have hand := and1_i64' _ hxj
      rw [show ((x / 2 ^ i : Nat) : Int) = (x : Int) / 2 ^ i by simp] at hand
      have hb2 : x / 2 ^ i % 2 < 2 := Nat.mod_lt _ (by decide)
      have HS' : Hid (PutSt w wr p b v L O F l t' m ((x / 2 ^ i % 2) :: Rc.bitsLo x (i + 1) j) v') := HS.out
      clear HS
      obtain ⟨c, hcc⟩ : ∃ c, x / 2 ^ i % 2 = c := ⟨_, rfl⟩
      rw [hcc] at hand hb2 HS'
      have hci : (c : Int) < 2 := by omega
      have hor := or1_i64 m c (by omega) hb2
      have hd := bit_ops p v' l b m (t'.getD m 0) c wr HS'.out.enc (by have := Hl.out; have := Hn.out; omega) hpo hb2 hc hfz (HS'.out.enc.away HS'.out.tr (by decide) (by decide))
      have Hd := Lib.hid hd
      have Hl2 : Hid ((l ++ [Rc.Op.bit (t'.getD m 0) c]).length + j ≤ ops.length + N) := by have := Hl.out; show _ ≤ _; simp; omega
      have Hr2 : Hid (Rc.Room (2 * m + c) N j) := Hr.out.next hb2
      have HmL := Lib.hid hmL
      have Hq := Lib.hid hq
      clear hq hc hfz hpo hxj hb2 hcc hd hmL hm65
      go_wp2_with (go_at_call 20; refine Hd.out.mono ?_; rintro r5 w5 ⟨rfl, v5, h1, h2⟩; have HS5 := Lib.hid (HS'.out.next HmL.out h1 h2); clear h1 h2)
      go_roundw
      case rel => exact ⟨i + 1, j, 2 * m + c, _, _, v5, by have := Hq.out; omega, by go_num, rfl, Hl2, Hr2, HS5⟩
      case measure => simp [intOf]; omega

/-- What stands while bits are got by a tree. -/
structure GetSt (w wr : World) (p b : Nat) (L : Nat) (R : List Nat × Rc.D × List Nat × Nat) (d : Rc.D) (t : List Nat) (m j : Nat) : Prop where
  dec : DecAt wr p d
  g : DecG d
  tr : TrAt wr b t
  pl : Rc.Pl t L
  fin : (Rc.getT d t m j).2 = R.2
  fr : Fr (fun k => k = p ∨ k = b) w wr
  ne : b ≠ p
theorem DecAt.away {w : World} {p b : Nat} {d : Rc.D} {t : List Nat} (h : DecAt w p d) (ht : TrAt w b t) : b ≠ p := ne_of_ty ht h.blk (by decide)
theorem GetSt.start {w : World} {p b : Nat} {L : Nat} {d : Rc.D} {t : List Nat} (he : DecAt w p d) (hg : DecG d) (ht : TrAt w b t) (hp : Rc.Pl t L) (N : Nat) : GetSt w w p b L (Rc.getT d t 1 N) d t 1 N :=
  ⟨he, hg, ht, hp, rfl, Fr.refl _ _, he.away ht⟩
theorem GetSt.next {w wr w' : World} {p b : Nat} {L : Nat} {R : List Nat × Rc.D × List Nat × Nat} {d : Rc.D} {t : List Nat} {m j : Nat} (h : GetSt w wr p b L R d t m (j + 1)) (hm : m < L)
    (he : DecAt w' p (d.bit (t.getD m 0)).2) (hs : Fr (one p) (wr.setCell ⟨b, m, none⟩ (.int .u16 (Rc.learn (t.getD m 0) (d.bit (t.getD m 0)).1 : Nat))) w') : GetSt w w' p b L R (d.bit (t.getD m 0)).2 (t.set m (Rc.learn (t.getD m 0) (d.bit (t.getD m 0)).1)) (2 * m + (d.bit (t.getD m 0)).1) j := by
  have hpo := h.pl.ok m (by rw [h.pl.len]; exact hm)
  refine ⟨he, h.g.bit hpo, (h.tr.set m _).keep hs h.ne, h.pl.set _ _ (hpo.learn _), h.fin, ?_, h.ne⟩
  exact (h.fr.setCell ⟨b, m, none⟩ _ (.inl (.inr rfl))).trans hs (fun k hk => .inl (.inl hk))

/-- What getting leaves. -/
structure GetPost (w : World) (p b : Nat) (L : Nat) (D : Rc.D) (F : List Nat) (w' : World) : Prop where
  dec : DecAt w' p D
  g : DecG D
  tr : TrAt w' b F
  pl : Rc.Pl F L
  fr : Fr (fun k => k = p ∨ k = b) w w'
theorem GetSt.done {w wr : World} {p b : Nat} {L : Nat} {R : List Nat × Rc.D × List Nat × Nat} {d : Rc.D} {t : List Nat} {m : Nat} (h : GetSt w wr p b L R d t m 0) : GetPost w p b L R.2.1 R.2.2.1 wr ∧ m = R.2.2.2 := by
  have h2 := h.fin
  obtain ⟨r0, r1, r2, r3⟩ := R
  simp only [Rc.getT, Prod.mk.injEq] at h2
  obtain ⟨rfl, rfl, rfl⟩ := h2
  exact ⟨⟨h.dec, h.g, h.tr, h.pl, h.fr⟩, rfl⟩

set_option maxHeartbeats 4000000 in
set_option maxRecDepth 10000 in
theorem tree_get (p : Nat) (d : Rc.D) (b : Nat) (t : List Nat) (L N M cap : Nat) (w : World) (h : DecAt w p d) (hg : DecG d) (ht : TrAt w b t) (hp : Rc.Pl t L) (hN : N ≤ 16) (hN1 : 1 ≤ N) (hM : M = 2 ^ N) (hML : M ≤ L) :
    Calls Try.prog 44 #[.slice (some ⟨b, 0, none⟩) M cap, .pointer (some ⟨p, 0, none⟩)] w fun r w' => r = .returned (.int .i64 (((Rc.getT d t 1 N).2.2.2 : Int) - (M : Int))) ∧ GetPost w p b L (Rc.getT d t 1 N).2.1 (Rc.getT d t 1 N).2.2.1 w' := by
  have hst := GetSt.start h hg ht hp N
  obtain ⟨R, hR⟩ : ∃ R, Rc.getT d t 1 N = R := ⟨_, rfl⟩
  rw [hR] at hst ⊢
  have Hst := Lib.hid hst
  have hb := tree_bits (some ⟨b, 0, none⟩) M cap N hN hM w
  have Hb := Lib.hid hb
  have hroom := Rc.Room.start N hN1
  have Hroom := Lib.hid hroom
  have HM := Lib.hid hM
  have HML := Lib.hid hML
  have hwp : wrap64 (2 ^ N) = (M : Int) := by rw [wrap_pow N hN, hM]
  have hm65 : M ≤ 65536 := by rw [hM]; exact (pow2_lt N 16 hN (by omega)).2
  have hM0 : (0 : Int) ≤ (M : Int) := by omega
  have hMi : (M : Int) ≤ 65536 := by omega
  clear h hg ht hp hst hb hroom hM hML hR
  have hNi : (N : Int) ≤ 16 := by omega
  have hN1i : (1 : Int) ≤ (N : Int) := by omega
  go_enter Try.func44, Try.ntmps44
  go_wp2_with (go_at_call 73; refine Hb.out.mono ?_; rintro r w1 ⟨rfl, rfl⟩)
  go_loopw [5, 10] (fun v5 v10 wr => ∃ (i j m : Nat) (d' : Rc.D) (t' : List Nat), i + j = N ∧ v10 = .int .i64 (i : Int) ∧ v5 = .int .i64 (m : Int) ∧ m ≤ 2 * 65536 ∧ Hid (Rc.Room m N j) ∧ Hid (GetSt w wr p b L R d' t' m j)) (fun _ v10 _ => (16 - intOf v10).toNat)
  case atStart => exact ⟨0, N, 1, d, t, by omega, rfl, rfl, by omega, Hroom.out, Hst.out⟩
  case round =>
    obtain ⟨i, j, m, d', t', hq, rfl, rfl, hmb, Hr, HS⟩ := hrel
    rcases j with _ | j
    · obtain rfl : i = N := by omega
      obtain ⟨hpost, hm⟩ := HS.out.done
      have Hp := Lib.hid hpost
      have Hm := Lib.hid hm
      have hmi2 : (m : Int) ≤ 131072 := by omega
      have hm0 : (0 : Int) ≤ (m : Int) := by omega
      clear hq hpost hm
      go_wp2
      go_ret
      exact ⟨by rw [← Hm.out]; rfl, Hp.out⟩
    · have hml : m < M := by rw [HM.out]; exact Hr.out.lt
      have hmL : m < L := by have := HML.out; omega
      have hmi : (m : Int) < (M : Int) := by omega
      have hmi2 : (m : Int) < 65536 := by omega
      have hii : (i : Int) < (N : Int) := by omega
      have hc := HS.out.tr.get (k := m) (by rw [HS.out.pl.len]; exact hmL)
      have hfz := free_of HS.out.tr m
      have hpo := HS.out.pl.ok m (by rw [HS.out.pl.len]; exact hmL)
      have hd := dec_bit p d' b m (t'.getD m 0) wr HS.out.dec HS.out.g hpo hc hfz HS.out.ne
      obtain ⟨c, hcc⟩ : ∃ c, (d'.bit (t'.getD m 0)).1 = c := ⟨_, rfl⟩
      have hb2 : c < 2 := by rw [← hcc]; unfold Rc.D.bit; split <;> simp
      have Hnx : Hid (∀ w', DecAt w' p (d'.bit (t'.getD m 0)).2 → Fr (one p) (wr.setCell ⟨b, m, none⟩ (.int .u16 (Rc.learn (t'.getD m 0) c : Nat))) w' → GetSt w w' p b L R (d'.bit (t'.getD m 0)).2 (t'.set m (Rc.learn (t'.getD m 0) c)) (2 * m + c) j) := by
        intro w' h1 h2
        have := HS.out.next hmL (w' := w') h1 (by rw [hcc]; exact h2)
        rw [hcc] at this
        exact this
      rw [hcc] at hd
      have hci : (c : Int) < 2 := by omega
      have hor := or1_i64 m c (by omega) hb2
      have Hd := Lib.hid hd
      have Hr2 : Hid (Rc.Room (2 * m + c) N j) := Hr.out.next hb2
      have Hq := Lib.hid hq
      clear hq hc hfz hpo hb2 hcc hd hmL
      go_wp2_with (go_at_call 28; refine Hd.out.mono ?_; rintro r5 w5 ⟨rfl, h1, h2⟩; have HS5 := Lib.hid (Hnx.out _ h1 h2); clear h1 h2)
      go_roundw
      case rel => exact ⟨i + 1, j, 2 * m + c, _, _, by have := Hq.out; omega, by go_num, rfl, by omega, Hr2, HS5⟩
      case measure => simp [intOf]; omega
end Go.Proofs.Ytpddocehjljofaa
