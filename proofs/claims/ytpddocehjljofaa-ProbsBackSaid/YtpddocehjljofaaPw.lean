/- Layer 4 (probs): numbers are got, the lowest bit first; bytes beside others. -/
import Derived.Test.YtpddocehjljofaaPv
namespace Go.Proofs.Ytpddocehjljofaa
set_option linter.unusedVariables false
open Go.RowKit Go.My

theorem or_shl (v c i : Nat) (hv : v < 2 ^ i) (hi : i ≤ 16) (hc : c < 2) : Go.bits .or .i64 (v : Int) ((c : Int) * 2 ^ i) = ((v + c * 2 ^ i : Nat) : Int) ∧ v + c * 2 ^ i < 2 ^ (i + 1) ∧ c * 2 ^ i ≤ 65536 := by
  have hp := (pow2_lt i 16 hi (by omega)).2
  have hcm : c * 2 ^ i ≤ 2 ^ i := by
    rcases (show c = 0 ∨ c = 1 by omega) with rfl | rfl <;> omega
  have h := (bits_nat .i64 32 (by decide) (fun n h0 h1 => IntWalk.i64_in n (by omega)) v (c * 2 ^ i) (by omega) (by omega)).2
  rw [show ((c * 2 ^ i : Nat) : Int) = (c : Int) * 2 ^ i by simp] at h
  refine ⟨?_, by rw [Nat.pow_succ]; omega, by omega⟩
  rw [h]
  congr 1
  have := Nat.two_pow_add_eq_or_of_lt hv c
  rw [Nat.or_comm, Nat.mul_comm c, ← this, Nat.add_comm]

/-- .. and the number, from its lowest bit on. -/
structure GbSt (w wr : World) (p b : Nat) (L : Nat) (R : List Nat × Rc.D × List Nat × Nat) (d : Rc.D) (t : List Nat) (m j v i : Nat) : Prop where
  g : GetSt w wr p b L R d t m j
  val : v + Rc.ofLo (Rc.getT d t m j).1 i = Rc.ofLo R.1 0
  lt : v < 2 ^ i
theorem GbSt.next {w wr w' : World} {p b : Nat} {L : Nat} {R : List Nat × Rc.D × List Nat × Nat} {d : Rc.D} {t : List Nat} {m j v i : Nat} (h : GbSt w wr p b L R d t m (j + 1) v i) (hm : m < L)
    (he : DecAt w' p (d.bit (t.getD m 0)).2) (hs : Fr (one p) (wr.setCell ⟨b, m, none⟩ (.int .u16 (Rc.learn (t.getD m 0) (d.bit (t.getD m 0)).1 : Nat))) w') (hv : v + (d.bit (t.getD m 0)).1 * 2 ^ i < 2 ^ (i + 1)) :
    GbSt w w' p b L R (d.bit (t.getD m 0)).2 (t.set m (Rc.learn (t.getD m 0) (d.bit (t.getD m 0)).1)) (2 * m + (d.bit (t.getD m 0)).1) j (v + (d.bit (t.getD m 0)).1 * 2 ^ i) (i + 1) := by
  refine ⟨h.g.next hm he hs, ?_, hv⟩
  rw [← h.val]
  simp only [Rc.getT, Rc.ofLo]
  omega

set_option maxHeartbeats 4000000 in
set_option maxRecDepth 10000 in
theorem tree_get_back (p : Nat) (d : Rc.D) (b : Nat) (t : List Nat) (L N M cap : Nat) (w : World) (h : DecAt w p d) (hg : DecG d) (ht : TrAt w b t) (hp : Rc.Pl t L) (hN : N ≤ 16) (hN1 : 1 ≤ N) (hM : M = 2 ^ N) (hML : M ≤ L) :
    Calls Try.prog 45 #[.slice (some ⟨b, 0, none⟩) M cap, .pointer (some ⟨p, 0, none⟩)] w fun r w' => r = .returned (.int .i64 ((Rc.ofLo (Rc.getT d t 1 N).1 0 : Nat) : Int)) ∧ GetPost w p b L (Rc.getT d t 1 N).2.1 (Rc.getT d t 1 N).2.2.1 w' := by
  have hst := GetSt.start h hg ht hp N
  have hst : GbSt w w p b L (Rc.getT d t 1 N) d t 1 N 0 0 := ⟨hst, by omega, by decide⟩
  obtain ⟨R, hR⟩ : ∃ R, Rc.getT d t 1 N = R := ⟨_, rfl⟩
  rw [hR] at hst ⊢
  have Hst := Lib.hid hst
  have hb := tree_bits (some ⟨b, 0, none⟩) M cap N hN hM w
  have Hb := Lib.hid hb
  have hroom := Rc.Room.start N hN1
  have Hroom := Lib.hid hroom
  have HM := Lib.hid hM
  have HML := Lib.hid hML
  have hm65 : M ≤ 65536 := by rw [hM]; exact (pow2_lt N 16 hN (by omega)).2
  have hMi : (M : Int) ≤ 65536 := by omega
  clear h hg ht hp hst hb hroom hM hML hR
  have hNi : (N : Int) ≤ 16 := by omega
  have hN1i : (1 : Int) ≤ (N : Int) := by omega
  go_enter Try.func45, Try.ntmps45
  go_wp2_with (go_at_call 73; refine Hb.out.mono ?_; rintro r w1 ⟨rfl, rfl⟩)
  go_loopw [5, 6, 11] (fun v5 v6 v11 wr => ∃ (i j m v : Nat) (d' : Rc.D) (t' : List Nat), i + j = N ∧ v11 = .int .i64 (i : Int) ∧ v5 = .int .i64 (m : Int) ∧ v6 = .int .i64 (v : Int) ∧ m ≤ 2 * 65536 ∧ Hid (Rc.Room m N j) ∧ Hid (GbSt w wr p b L R d' t' m j v i)) (fun _ _ v11 _ => (16 - intOf v11).toNat)
  case atStart => exact ⟨0, N, 1, 0, d, t, by omega, rfl, rfl, rfl, by omega, Hroom.out, Hst.out⟩
  case round =>
    obtain ⟨i, j, m, v, d', t', hq, rfl, rfl, rfl, hmb, Hr, HS⟩ := hrel
    rcases j with _ | j
    · obtain rfl : i = N := by omega
      obtain ⟨hpost, hm⟩ := HS.out.g.done
      have Hp := Lib.hid hpost
      have hv := HS.out.val
      simp only [Rc.getT, Rc.ofLo, Nat.add_zero] at hv
      have Hv := Lib.hid hv
      clear hq hpost hm hv
      go_wp2
      go_ret
      exact ⟨by rw [← Hv.out]; rfl, Hp.out⟩
    · have hml : m < M := by rw [HM.out]; exact Hr.out.lt
      have hmL : m < L := by have := HML.out; omega
      have hmi : (m : Int) < (M : Int) := by omega
      have hmi2 : (m : Int) < 65536 := by omega
      have hii : (i : Int) < (N : Int) := by omega
      have hi16 : (i : Int) < 16 := by omega
      have hc := HS.out.g.tr.get (k := m) (by rw [HS.out.g.pl.len]; exact hmL)
      have hfz := free_of HS.out.g.tr m
      have hpo := HS.out.g.pl.ok m (by rw [HS.out.g.pl.len]; exact hmL)
      have hd := dec_bit p d' b m (t'.getD m 0) wr HS.out.g.dec HS.out.g.g hpo hc hfz HS.out.g.ne
      obtain ⟨c, hcc⟩ : ∃ c, (d'.bit (t'.getD m 0)).1 = c := ⟨_, rfl⟩
      have hb2 : c < 2 := by rw [← hcc]; unfold Rc.D.bit; split <;> simp
      obtain ⟨ho1, ho2, ho3⟩ := or_shl v c i HS.out.lt (by omega) hb2
      have Hnx : Hid (∀ w', DecAt w' p (d'.bit (t'.getD m 0)).2 → Fr (one p) (wr.setCell ⟨b, m, none⟩ (.int .u16 (Rc.learn (t'.getD m 0) c : Nat))) w' → GbSt w w' p b L R (d'.bit (t'.getD m 0)).2 (t'.set m (Rc.learn (t'.getD m 0) c)) (2 * m + c) j (v + c * 2 ^ i) (i + 1)) := by
        intro w' h1 h2
        have := HS.out.next hmL (w' := w') h1 (by rw [hcc]; exact h2) (by rw [hcc]; exact ho2)
        rw [hcc] at this
        exact this
      rw [hcc] at hd
      have hci : (c : Int) < 2 := by omega
      have hor := or1_i64 m c (by omega) hb2
      have hsh : wrap64 ((c : Int) * 2 ^ i) = (c : Int) * 2 ^ i := by
        rw [show ((c : Int) * 2 ^ i) = ((c * 2 ^ i : Nat) : Int) by simp]
        generalize c * 2 ^ i = z at ho3
        unfold wrap64
        omega
      have Hd := Lib.hid hd
      have Hr2 : Hid (Rc.Room (2 * m + c) N j) := Hr.out.next hb2
      have Hq := Lib.hid hq
      clear hq hc hfz hpo hb2 hcc hd hmL ho2 ho3
      go_wp2_with (go_at_call 28; refine Hd.out.mono ?_; rintro r5 w5 ⟨rfl, h1, h2⟩; have HS5 := Lib.hid (Hnx.out _ h1 h2); clear h1 h2)
      go_roundw
      case rel => exact ⟨i + 1, j, 2 * m + c, _, _, _, by have := Hq.out; omega, by go_num, rfl, rfl, by omega, Hr2, HS5⟩
      case measure => simp [intOf]; omega
end Go.Proofs.Ytpddocehjljofaa
