/- Layer 4 (probs): numbers are put by trees. -/
import Derived.Test.YtpddocehjljofaaPt
namespace Go.Proofs.Ytpddocehjljofaa
set_option linter.unusedVariables false
open Go.RowKit Go.My

theorem or1_i64 (a b : Nat) (ha : a < 1073741824) (hb : b < 2) : Go.bits .or .i64 ((a : Int) * 2) (b : Int) = ((2 * a + b : Nat) : Int) := by
  have h := (bits_nat .i64 32 (by decide) (fun n h0 h1 => IntWalk.i64_in n (by omega)) (a * 2) b (by omega) (by omega)).2
  rw [show ((a * 2 : Nat) : Int) = (a : Int) * 2 by simp] at h
  rw [h]
  congr 1
  have := Nat.two_pow_add_eq_or_of_lt (i := 1) (b := b) (by omega) a
  rw [Nat.mul_comm a 2]
  rw [show (2 : Nat) ^ 1 = 2 from rfl] at this
  exact this.symm
theorem and1_i64' (a : Nat) (ha : a < 4294967296) : Go.bits .and .i64 (a : Int) 1 = ((a % 2 : Nat) : Int) := by
  have h := (bits_nat .i64 32 (by decide) (fun n h0 h1 => IntWalk.i64_in n (by omega)) a 1 ha (by decide)).1
  rw [show ((1 : Nat) : Int) = 1 from rfl] at h
  rw [h, Nat.and_one_is_mod]

/-- What stands while bits are put by a tree. -/
structure PutSt (w wr : World) (p b : Nat) (v : Value) (L : Nat) (O : List Rc.Op) (F : List Nat) (l : List Rc.Op) (t : List Nat) (m : Nat) (bs : List Nat) (v' : Value) : Prop where
  enc : EncO wr p v' l
  tr : TrAt wr b t
  pl : Rc.Pl t L
  ops : l ++ (Rc.putT t m bs).1 = O
  fin : (Rc.putT t m bs).2.1 = F
  fr : Fr (fun k => encFoot p v k ∨ k = b) w wr
  foot : ∀ k, encFoot p v' k → encFoot p v k ∨ w.heap.size ≤ k
  old : b < w.heap.size
theorem PutSt.start {w : World} {p b : Nat} {v : Value} {L : Nat} {l : List Rc.Op} {t : List Nat} (he : EncO w p v l) (ht : TrAt w b t) (hp : Rc.Pl t L) (bs : List Nat) : PutSt w w p b v L (l ++ (Rc.putT t 1 bs).1) (Rc.putT t 1 bs).2.1 l t 1 bs v :=
  ⟨he, ht, hp, rfl, rfl, Fr.refl _ _, fun _ h => .inl h, lt_of_block ht⟩
theorem PutSt.keep {w wr w' : World} {p b : Nat} {v v' : Value} {L : Nat} {O l : List Rc.Op} {F t bs : List Nat} {m : Nat} (h : PutSt w wr p b v L O F l t m bs v') (hf : Fr (fun _ => False) wr w') : PutSt w w' p b v L O F l t m bs v' :=
  ⟨h.enc.keep hf (fun _ _ h => h), h.tr.keep hf (fun h => h), h.pl, h.ops, h.fin, h.fr.trans hf (fun _ h => h.elim), h.foot, h.old⟩
theorem PutSt.next {w wr w' : World} {p b : Nat} {v v' v'' : Value} {L : Nat} {O l : List Rc.Op} {F t bs : List Nat} {m c : Nat} (h : PutSt w wr p b v L O F l t m (c :: bs) v') (hm : m < L)
    (he : EncO w' p v'' (l ++ [.bit (t.getD m 0) c])) (hs : Step (wr.setCell ⟨b, m, none⟩ (.int .u16 (Rc.learn (t.getD m 0) c : Nat))) w' (encFoot p v') (encFoot p v'')) : PutSt w w' p b v L O F (l ++ [.bit (t.getD m 0) c]) (t.set m (Rc.learn (t.getD m 0) c)) (2 * m + c) bs v'' := by
  have hz := h.fr.size
  have hz2 : (wr.setCell ⟨b, m, none⟩ (.int .u16 (Rc.learn (t.getD m 0) c : Nat))).heap.size = wr.heap.size := by simp [World.setCell]
  refine ⟨he, (h.tr.set m _).keep hs.fr (h.enc.away h.tr (by decide) (by decide)), h.pl.set _ _ ((h.pl.ok m (by rw [h.pl.len]; exact hm)).learn c), ?_, h.fin, ?_, ?_, h.old⟩
  · rw [← h.ops]; simp [Rc.putT]
  · refine (h.fr.setCell ⟨b, m, none⟩ _ (.inl (.inr rfl))).trans hs.fr (fun k hk => ?_)
    rcases h.foot k hk with h1 | h1
    · exact .inl (.inl h1)
    · exact .inr h1
  · intro k hk
    rcases hs.foot k hk with h1 | h1
    · exact h.foot k h1
    · right; omega

/-- What putting leaves. -/
def PutPost (w : World) (p b : Nat) (v : Value) (O : List Rc.Op) (F : List Nat) (w' : World) : Prop :=
  ∃ v', EncO w' p v' O ∧ TrAt w' b F ∧ Fr (fun k => encFoot p v k ∨ k = b) w w' ∧ (∀ k, encFoot p v' k → encFoot p v k ∨ w.heap.size ≤ k)
theorem PutSt.done {w wr : World} {p b : Nat} {v v' : Value} {L : Nat} {O l : List Rc.Op} {F t : List Nat} {m : Nat} (h : PutSt w wr p b v L O F l t m [] v') : PutPost w p b v O F wr := by
  have h1 := h.ops
  have h2 := h.fin
  simp only [Rc.putT, List.append_nil] at h1 h2
  subst h1 h2
  exact ⟨v', h.enc, h.tr, h.fr, h.foot⟩

set_option maxHeartbeats 4000000 in
set_option maxRecDepth 10000 in
theorem tree_put (p : Nat) (v : Value) (ops : List Rc.Op) (b : Nat) (t : List Nat) (L N M cap x : Nat) (w : World) (h : EncO w p v ops) (hn : ops.length ≤ 90000000) (ht : TrAt w b t) (hp : Rc.Pl t L) (hN : N ≤ 16) (hN1 : 1 ≤ N) (hM : M = 2 ^ N) (hML : M ≤ L) (hx : x < 2147483648) :
    Calls Try.prog 40 #[.slice (some ⟨b, 0, none⟩) M cap, .pointer (some ⟨p, 0, none⟩), .int .i64 (x : Int)] w fun r w' => r = .returned (.tuple #[]) ∧ PutPost w p b v (ops ++ (Rc.putT t 1 (Rc.bitsHi x N)).1) (Rc.putT t 1 (Rc.bitsHi x N)).2.1 w' := by
  have hst := PutSt.start h ht hp (Rc.bitsHi x N)
  obtain ⟨O, hO⟩ : ∃ O, ops ++ (Rc.putT t 1 (Rc.bitsHi x N)).1 = O := ⟨_, rfl⟩
  obtain ⟨F, hF⟩ : ∃ F, (Rc.putT t 1 (Rc.bitsHi x N)).2.1 = F := ⟨_, rfl⟩
  rw [hO, hF] at hst ⊢
  have Hst := Lib.hid hst
  have hb := tree_bits (some ⟨b, 0, none⟩) M cap N hN hM w
  have Hb := Lib.hid hb
  have hroom := Rc.Room.start N hN1
  have Hroom := Lib.hid hroom
  have HM := Lib.hid hM
  have HML := Lib.hid hML
  have Hn := Lib.hid hn
  clear h ht hp hst hb hroom hM hML hn hO hF
  have hNi : (N : Int) ≤ 16 := by omega
  have hN1i : (1 : Int) ≤ (N : Int) := by omega
  go_enter Try.func40, Try.ntmps40
  go_wp2_with (go_at_call 73; refine Hb.out.mono ?_; rintro r w1 ⟨rfl, rfl⟩)
  go_loopw [6, 7] (fun v6 v7 wr => ∃ (q : Int) (j m : Nat) (l : List Rc.Op) (t' : List Nat) (v' : Value), q + 1 = j ∧ j ≤ N ∧ v7 = .int .i64 q ∧ v6 = .int .i64 (m : Int) ∧ Hid (l.length + j ≤ ops.length + N) ∧ Hid (Rc.Room m N j) ∧ Hid (PutSt w wr p b v L O F l t' m (Rc.bitsHi x j) v')) (fun _ v7 _ => (intOf v7 + 1).toNat)
  case atStart => exact ⟨_, N, 1, ops, t, v, by omega, Nat.le_refl _, rfl, rfl, Nat.le_refl _, Hroom.out, Hst.out⟩
  case round =>
    obtain ⟨q, j, m, l, t', v', hq, hj, rfl, rfl, Hl, Hr, HS⟩ := hrel
    rcases j with _ | j
    · obtain rfl : q = -1 := by omega
      clear hq
      go_wp2
      go_end0
      exact ⟨rfl, HS.out.done⟩
    · obtain rfl : q = (j : Int) := by omega
      have hml : m < M := by rw [HM.out]; exact Hr.out.lt
      have hm65 : M ≤ 65536 := by rw [HM.out]; exact (pow2_lt N 16 hN (by omega)).2
      have hmL : m < L := by have := HML.out; omega
      have hmi : (m : Int) < (M : Int) := by omega
      have hmi2 : (m : Int) < 65536 := by omega
      have hc := HS.out.tr.get (k := m) (by rw [HS.out.pl.len]; exact hmL)
      have hfz := free_of HS.out.tr m
      have hpo := HS.out.pl.ok m (by rw [HS.out.pl.len]; exact hmL)
      have hxj : x / 2 ^ j < 4294967296 := Nat.lt_of_le_of_lt (Nat.div_le_self _ _) (by omega)
      have hand := and1_i64' _ hxj
      rw [show ((x / 2 ^ j : Nat) : Int) = (x : Int) / 2 ^ j by simp] at hand
      have hb2 : x / 2 ^ j % 2 < 2 := Nat.mod_lt _ (by decide)
      have HS' : Hid (PutSt w wr p b v L O F l t' m ((x / 2 ^ j % 2) :: Rc.bitsHi x j) v') := HS.out
      clear HS
      obtain ⟨c, hcc⟩ : ∃ c, x / 2 ^ j % 2 = c := ⟨_, rfl⟩
      rw [hcc] at hand hb2 HS'
      have hci : (c : Int) < 2 := by omega
      have hor := or1_i64 m c (by omega) hb2
      have hd := bit_ops p v' l b m (t'.getD m 0) c wr HS'.out.enc (by have := Hl.out; have := Hn.out; omega) hpo hb2 hc hfz (HS'.out.enc.away HS'.out.tr (by decide) (by decide))
      have Hd := Lib.hid hd
      have Hl2 : Hid ((l ++ [Rc.Op.bit (t'.getD m 0) c]).length + j ≤ ops.length + N) := by have := Hl.out; show _ ≤ _; simp; omega
      have Hr2 : Hid (Rc.Room (2 * m + c) N j) := Hr.out.next hb2
      have HmL := Lib.hid hmL
      have hji : (j : Int) ≤ 15 := by omega
      clear hq hc hfz hpo hxj hb2 hcc hd hmL hm65
      go_wp2_with (go_at_call 20; refine Hd.out.mono ?_; rintro r5 w5 ⟨rfl, v5, h1, h2⟩; have HS5 := Lib.hid (HS'.out.next HmL.out h1 h2); clear h1 h2)
      go_roundw
      case rel => exact ⟨_, j, 2 * m + c, _, _, v5, by omega, by omega, rfl, rfl, Hl2, Hr2, HS5⟩
      case measure => simp [intOf]
end Go.Proofs.Ytpddocehjljofaa
