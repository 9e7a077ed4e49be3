/- Layer 4 (probs): a byte is put beside another one. -/
import Derived.Test.YtpddocehjljofaaPx
namespace Go.Proofs.Ytpddocehjljofaa
set_option linter.unusedVariables false
open Go.RowKit Go.My

theorem and1_u8 (a : Nat) (ha : a < 256) : Go.bits .and .u8 (a : Int) 1 = ((a % 2 : Nat) : Int) := by
  have h := (bits_nat .u8 8 (by decide) (fun n h0 h1 => IntWalk.u8_in n (by omega)) a 1 ha (by decide)).1
  rw [show ((1 : Nat) : Int) = 1 from rfl] at h
  rw [h, Nat.and_one_is_mod]
theorem lk_num (o j : Nat) (hj : j ≤ 7) : 2 * (o * 2 ^ (8 - (j + 1))) = o * 2 ^ (8 - j) ∧ o * 2 ^ (8 - j) / 256 = o / 2 ^ j := by
  constructor
  · rw [show 8 - j = (8 - (j + 1)) + 1 by omega, Nat.pow_succ, Nat.mul_comm 2, Nat.mul_assoc]
  · have e : (256 : Nat) = 2 ^ j * 2 ^ (8 - j) := by rw [← Nat.pow_add, show j + (8 - j) = 8 by omega]
    rw [e]
    exact Nat.mul_div_mul_right _ _ (Nat.pow_pos (by decide))
theorem lk_small (o j : Nat) (ho : o < 256) : o * 2 ^ (8 - j) < 65536 := by
  have : (2 : Nat) ^ (8 - j) ≤ 2 ^ 8 := Nat.pow_le_pow_right (by decide) (by omega)
  have h2 : o * 2 ^ (8 - j) ≤ 255 * 2 ^ 8 := Nat.mul_le_mul (by omega) this
  omega
def Half (s : Rc.Lk) : Nat := if s.like then 256 else 0
theorem half_le (s : Rc.Lk) : Half s ≤ 256 := by unfold Half; split <;> omega

/-- What the two asks of a like compute. -/
structure LkNum (o j : Nat) (s : Rc.Lk) (C K : Nat) : Prop where
  hA : Go.bits .and .i64 ((o * 2 ^ (8 - j) : Nat) : Int) 256 = (C : Int)
  hB : Go.bits .and .i64 (C : Int) (Half s : Int) = (K : Int)
  hC : C = s.bit o * 256
  hK : K ≤ 256
  at_ : Half s + K + s.m = s.at_ o
  next : ∀ b, (if b * 256 = C then Half s else 0) = Half (s.next o b)
theorem lkNum (o j : Nat) (s : Rc.Lk) (ho : o < 256) (hj : j ≤ 7) (hk : s.k = j + 1) : ∃ C K, LkNum o j s C K := by
  have hn := lk_num o j hj
  have hsm := lk_small o j ho
  have hbit : o * 2 ^ (8 - j) / 256 % 2 = s.bit o := by unfold Rc.Lk.bit; rw [hn.2, hk]; rfl
  have hA := and256 (o * 2 ^ (8 - j)) (by omega)
  rw [hbit] at hA
  have hb2 : s.bit o < 2 := Nat.mod_lt _ (by decide)
  refine ⟨s.bit o * 256, if s.like then s.bit o * 256 else 0, hA, andLike _ hb2 s.like, rfl, ?_, ?_, fun b => ?_⟩
  · split <;> omega
  · unfold Half Rc.Lk.at_
    cases s.like <;> simp <;> omega
  · unfold Half Rc.Lk.next
    generalize s.bit o = c at *
    cases s.like <;> simp
    by_cases e : b = c
    · subst e; simp
    · have : ¬ b * 256 = c * 256 := by omega
      simp [e, this]

/-- What stands while a byte's bits are put. -/
structure PlSt (w wr : World) (p b : Nat) (v : Value) (L : Nat) (O : List Rc.Op) (F : List Nat) (o : Nat) (l : List Rc.Op) (t : List Nat) (s : Rc.Lk) (bs : List Nat) (v' : Value) : Prop where
  enc : EncO wr p v' l
  tr : TrAt wr b t
  pl : Rc.Pl t L
  ops : l ++ (Rc.putL o t s bs).1 = O
  fin : (Rc.putL o t s bs).2.1 = F
  fr : Fr (fun k => encFoot p v k ∨ k = b) w wr
  foot : ∀ k, encFoot p v' k → encFoot p v k ∨ w.heap.size ≤ k
  old : b < w.heap.size
theorem PlSt.start {w : World} {p b : Nat} {v : Value} {L : Nat} {l : List Rc.Op} {t : List Nat} (he : EncO w p v l) (ht : TrAt w b t) (hp : Rc.Pl t L) (o : Nat) (bs : List Nat) : PlSt w w p b v L (l ++ (Rc.putL o t Rc.Lk.start bs).1) (Rc.putL o t Rc.Lk.start bs).2.1 o l t Rc.Lk.start bs v :=
  ⟨he, ht, hp, rfl, rfl, Fr.refl _ _, fun _ h => .inl h, lt_of_block ht⟩
theorem PlSt.keep {w wr w' : World} {p b o : Nat} {v v' : Value} {L : Nat} {O l : List Rc.Op} {F t bs : List Nat} {s : Rc.Lk} (h : PlSt w wr p b v L O F o l t s bs v') (hf : Fr (fun _ => False) wr w') : PlSt w w' p b v L O F o l t s bs v' :=
  ⟨h.enc.keep hf (fun _ _ h => h), h.tr.keep hf (fun h => h), h.pl, h.ops, h.fin, h.fr.trans hf (fun _ h => h.elim), h.foot, h.old⟩
theorem PlSt.like {w wr w' : World} {p b o q m H y : Nat} {v v' : Value} {L : Nat} {O l : List Rc.Op} {F t bs : List Nat} {s : Rc.Lk} (h : PlSt w wr p b v L O F o l t s bs v') (hq : LkAt wr q m H y) (hn : w.heap.size ≤ q) (hf : Fr (one q) wr w') : PlSt w w' p b v L O F o l t s bs v' := by
  have h1 := h.enc.away hq (by decide) (by decide)
  have h2 : b ≠ q := by have := h.old; omega
  refine ⟨h.enc.keep hf (fun k hk hk2 => ?_), h.tr.keep hf h2, h.pl, h.ops, h.fin, h.fr.trans hf (fun k hk => ?_), h.foot, h.old⟩
  · cases hk2; exact h1 hk
  · cases hk; exact .inr hn
theorem PlSt.next {w wr w' : World} {p b o : Nat} {v v' v'' : Value} {L : Nat} {O l : List Rc.Op} {F t bs : List Nat} {s : Rc.Lk} {c : Nat} (h : PlSt w wr p b v L O F o l t s (c :: bs) v') (hm : s.at_ o < L)
    (he : EncO w' p v'' (l ++ [.bit (t.getD (s.at_ o) 0) c])) (hs : Step (wr.setCell ⟨b, s.at_ o, none⟩ (.int .u16 (Rc.learn (t.getD (s.at_ o) 0) c : Nat))) w' (encFoot p v') (encFoot p v'')) : PlSt w w' p b v L O F o (l ++ [.bit (t.getD (s.at_ o) 0) c]) (t.set (s.at_ o) (Rc.learn (t.getD (s.at_ o) 0) c)) (s.next o c) bs v'' := by
  have hz := h.fr.size
  have hz2 : (wr.setCell ⟨b, s.at_ o, none⟩ (.int .u16 (Rc.learn (t.getD (s.at_ o) 0) c : Nat))).heap.size = wr.heap.size := by simp [World.setCell]
  refine ⟨he, (h.tr.set _ _).keep hs.fr (h.enc.away h.tr (by decide) (by decide)), h.pl.set _ _ ((h.pl.ok _ (by rw [h.pl.len]; exact hm)).learn c), ?_, h.fin, ?_, ?_, h.old⟩
  · rw [← h.ops]; simp [Rc.putL]
  · refine (h.fr.setCell ⟨b, s.at_ o, none⟩ _ (.inl (.inr rfl))).trans hs.fr (fun k hk => ?_)
    rcases h.foot k hk with h1 | h1
    · exact .inl (.inl h1)
    · exact .inr h1
  · intro k hk
    rcases hs.foot k hk with h1 | h1
    · exact h.foot k h1
    · right; omega
theorem PlSt.done {w wr : World} {p b o : Nat} {v v' : Value} {L : Nat} {O l : List Rc.Op} {F t : List Nat} {s : Rc.Lk} (h : PlSt w wr p b v L O F o l t s [] v') : PutPost w p b v O F wr := by
  have h1 := h.ops
  have h2 := h.fin
  simp only [Rc.putL, List.append_nil] at h1 h2
  subst h1 h2
  exact ⟨v', h.enc, h.tr, h.fr, h.foot⟩

set_option maxHeartbeats 4000000 in
set_option maxRecDepth 10000 in
theorem put_like (p : Nat) (v : Value) (ops : List Rc.Op) (b : Nat) (t : List Nat) (L M cap x o : Nat) (w : World) (h : EncO w p v ops) (hn : ops.length ≤ 90000000) (ht : TrAt w b t) (hp : Rc.Pl t L) (hM : 768 ≤ M) (hML : M ≤ L) (hx : x < 256) (ho : o < 256) :
    Calls Try.prog 42 #[.pointer (some ⟨p, 0, none⟩), .slice (some ⟨b, 0, none⟩) M cap, .int .u8 (x : Int), .int .u8 (o : Int)] w fun r w' => r = .returned (.tuple #[]) ∧ PutPost w p b v (ops ++ (Rc.putL o t Rc.Lk.start (Rc.bitsHi x 8)).1) (Rc.putL o t Rc.Lk.start (Rc.bitsHi x 8)).2.1 w' := by
  have hst := PlSt.start h ht hp o (Rc.bitsHi x 8)
  obtain ⟨O, hO⟩ : ∃ O, ops ++ (Rc.putL o t Rc.Lk.start (Rc.bitsHi x 8)).1 = O := ⟨_, rfl⟩
  obtain ⟨F, hF⟩ : ∃ F, (Rc.putL o t Rc.Lk.start (Rc.bitsHi x 8)).2.1 = F := ⟨_, rfl⟩
  rw [hO, hF] at hst ⊢
  have Hst := Lib.hid (hst.keep (w' := w.alloc (.cells #[.int .i64 1, .int .i64 256, .int .i64 (o : Int)] 128)) ((Fr.refl _ _).alloc _))
  have HM := Lib.hid hM
  have HML := Lib.hid hML
  have Hn := Lib.hid hn
  have hlk : LkAt (w.alloc (.cells #[.int .i64 1, .int .i64 256, .int .i64 (o : Int)] 128)) w.heap.size Rc.Lk.start.m (Half Rc.Lk.start) (o * 2 ^ (8 - 8)) := by
    have := heap_alloc_new w (.cells #[.int .i64 1, .int .i64 256, .int .i64 (o : Int)] 128)
    unfold LkAt
    rw [this]
    simp [Rc.Lk.start, Half]
  have Hlk := Lib.hid hlk
  clear h ht hp hst hM hML hn hO hF hlk
  have hoi : (o : Int) < 256 := by omega
  have hxi : (x : Int) < 256 := by omega
  go_enter Try.func42, Try.ntmps42
  go_wp2
  go_loopw [9] (fun v9 wr => ∃ (q : Int) (j : Nat) (s : Rc.Lk) (l : List Rc.Op) (t' : List Nat) (v' : Value), q + 1 = j ∧ j ≤ 8 ∧ v9 = .int .i64 q ∧ Hid (l.length + j ≤ ops.length + 8) ∧ Hid (s.Room j) ∧ Hid (LkAt wr w.heap.size s.m (Half s) (o * 2 ^ (8 - j))) ∧ Hid (PlSt w wr p b v L O F o l t' s (Rc.bitsHi x j) v')) (fun v9 _ => (intOf v9 + 1).toNat)
  case atStart => exact ⟨_, 8, Rc.Lk.start, ops, t, v, by omega, Nat.le_refl _, rfl, Nat.le_refl _, Rc.Lk.Room.start, Hlk.out, Hst.out⟩
  case round =>
    obtain ⟨q, j, s, l, t', v', hq, hj, rfl, Hl, Hr, HL, HS⟩ := hrel
    rcases j with _ | j
    · obtain rfl : q = -1 := by omega
      clear hq
      go_wp2
      go_end0
      exact ⟨rfl, HS.out.done⟩
    · obtain rfl : q = (j : Int) := by omega
      have hm7 : s.at_ o < 768 := (Hr.out.lt o).1
      have hsm : s.m < 256 := (Hr.out.lt o).2
      obtain ⟨C, K, hnum⟩ := lkNum o j s ho (by omega) Hr.out.k
      have Hnum := Lib.hid hnum
      have hml : s.at_ o < L := by have := HML.out; have := HM.out; omega
      have Hml := Lib.hid hml
      have hmi : ((s.at_ o : Nat) : Int) < (M : Int) := by have := HM.out; omega
      have hxj : x / 2 ^ j < 256 := Nat.lt_of_le_of_lt (Nat.div_le_self _ _) (by omega)
      have hand := and1_u8 _ hxj
      rw [show ((x / 2 ^ j : Nat) : Int) = (x : Int) / 2 ^ j by simp] at hand
      have hb2 : x / 2 ^ j % 2 < 2 := Nat.mod_lt _ (by decide)
      have HS' : Hid (PlSt w wr p b v L O F o l t' s ((x / 2 ^ j % 2) :: Rc.bitsHi x j) v') := HS.out
      clear HS
      obtain ⟨c, hcc⟩ : ∃ c, x / 2 ^ j % 2 = c := ⟨_, rfl⟩
      rw [hcc] at hand hb2 HS'
      have hci : (c : Int) < 2 := by omega
      have hat := like_at w.heap.size s.m (Half s) (o * 2 ^ (8 - (j + 1))) C K wr HL.out (by omega) (half_le s) hnum.hK (by have := lk_small o (j + 1) ho; omega) (by rw [(lk_num o j (by omega)).1]; exact hnum.hA) hnum.hB
      rw [(lk_num o j (by omega)).1, hnum.at_] at hat
      have Hat := Lib.hid hat
      have hpo := HS'.out.pl.ok (s.at_ o) (by rw [HS'.out.pl.len]; exact hml)
      have Hpo := Lib.hid hpo
      have Hb2 := Lib.hid hb2
      have Hl2 : Hid ((l ++ [Rc.Op.bit (t'.getD (s.at_ o) 0) c]).length + j ≤ ops.length + 8) := by have := Hl.out; show _ ≤ _; simp; omega
      have Hr2 : Hid ((s.next o c).Room j) := Hr.out.next o hb2
      have hji : (j : Int) ≤ 7 := by omega
      obtain ⟨a, ha⟩ : ∃ a, s.at_ o = a := ⟨_, rfl⟩
      have Ha := Lib.hid ha
      rw [ha] at hmi Hat
      have hsmi : (s.m : Int) < 256 := by omega
      clear hq hxj hb2 hcc hat hpo hnum hml ha
      go_upto_region 5 with fail
      go_wp2_with (first
        | (go_at_call 75; refine Hat.out.mono ?_; rintro r1 w1 ⟨rfl, h1, h2⟩; have HL1 := Lib.hid h1; have HS1 := Lib.hid (HS'.out.like HL.out (Nat.le_refl _) h2); have hc1 := HS1.out.tr.get (k := s.at_ o) (by rw [HS1.out.pl.len]; exact Hml.out); have hd := bit_ops p v' l b (s.at_ o) (t'.getD (s.at_ o) 0) c w1 HS1.out.enc (by have := Hl.out; have := Hn.out; omega) Hpo.out Hb2.out hc1 (free_of HS1.out.tr _) (HS1.out.enc.away HS1.out.tr (by decide) (by decide)); rw [Ha.out] at hd; have Hd := Lib.hid hd; clear h1 h2 hc1 hd)
        | (go_at_call 20; refine Hd.out.mono ?_; rintro r5 w5 ⟨rfl, v5, h1, h2⟩; rw [← Ha.out] at h1 h2; have HS5 := Lib.hid (HS1.out.next Hml.out h1 h2); have hL5 := h2.keep (block_setCell_other (w := w1) HL1.out (by have := HS1.out.old; omega) _) (HS1.out.enc.away HL1.out (by decide) (by decide)); have hst := like_step w.heap.size s.m (Half s) (o * 2 ^ (8 - j)) C c w5 hL5 (by omega) Hb2.out Hnum.out.hA (by rw [Hnum.out.hC]; have : s.bit o < 2 := Nat.mod_lt _ (by decide); omega); rw [Hnum.out.next] at hst; have Hst := Lib.hid hst; have HL5 := Lib.hid hL5; clear h1 h2 hL5 hst)
        | (go_at_call 76; refine Hst.out.mono ?_; rintro r6 w6 ⟨rfl, h1, h2⟩; have HL6 := Lib.hid h1; have HS6 := Lib.hid (HS5.out.like HL5.out (Nat.le_refl _) h2); clear h1 h2))
      go_roundw
      case rel => exact ⟨_, j, _, _, _, v5, by omega, by omega, rfl, Hl2, Hr2, HL6, HS6⟩
      case measure => simp [intOf]
end Go.Proofs.Ytpddocehjljofaa
