/- CrcBursts: the walk of the law. -/
import Derived.Test.YtfmoagdhajfngaaCrcB
import Derived.Test.YtfmoagdhajfngaaCrcN
import Derived.Test.YtfmoagdhajfngaaOps
import Derived.Deep.DeepCutAuto
import Derived.Lib.ConvBytes
namespace Go.Proofs.Ytfmoagdhajfngaa
open Go.RowKit Go.My Go.Crc

/-- Block g's first cells are these bytes; none of them is frozen. -/
def BRow (w : World) (g : Nat) (bs : List UInt8) : Prop :=
  ∃ cs t fr, w.heap[g]? = some (.cells cs t fr) ∧ (∀ j, j < bs.length → cs[j]? = some (.int .u8 ((bs.getD j 0).toNat : Int))) ∧ (∀ j, j < bs.length → ¬ (fr.1 ≤ j ∧ j < fr.2))

theorem BRow.cell {w : World} {g : Nat} {bs : List UInt8} (h : BRow w g bs) (j : Nat) (hj : j < bs.length) : w.cell? ⟨g, j, none⟩ = some (.int .u8 ((bs.getD j 0).toNat : Int)) := by
  obtain ⟨cs, t, fr, hb, hc, _⟩ := h
  rw [cell_of hb]; exact hc j hj
theorem BRow.free {w : World} {g : Nat} {bs : List UInt8} (h : BRow w g bs) (j : Nat) (hj : j < bs.length) : w.frozen? ⟨g, j, none⟩ = false := by
  obtain ⟨cs, t, fr, hb, _, hf⟩ := h
  have := hf j hj
  obtain ⟨lo, hi⟩ := fr
  simp only [World.frozen?, hb]
  simpa using this
theorem BRow.set {w : World} {g : Nat} {bs : List UInt8} (h : BRow w g bs) (j : Nat) (b : UInt8) (x : Int) (hx : x = b.toNat) (hj : j < bs.length) : BRow (w.setCell ⟨g, j, none⟩ (.int .u8 x)) g (bs.set j b) := by
  obtain ⟨cs, t, fr, hb, hc, hf⟩ := h
  refine ⟨_, t, fr, block_setCell hb _, ?_, by simpa using hf⟩
  intro i hi
  have hi' : i < bs.length := by simpa using hi
  have hsz : i < cs.size := (Array.getElem?_eq_some_iff.1 (hc i hi')).1
  rw [Array.getElem?_setIfInBounds]
  by_cases e : j = i
  · subst e
    rw [if_pos rfl, if_pos hsz]
    simp [List.getD, hi', hx]
  · rw [if_neg e, hc i hi']
    simp [List.getD, List.getElem?_set_ne e]
theorem BRow.drewN {w : World} {g : Nat} {bs : List UInt8} (h : BRow w g bs) (n : Nat) : BRow (w.drewN n) g bs := h
theorem BRow.str {w : World} {g cap : Nat} {bs : List UInt8} (h : BRow w g bs) : (convert 29 9 (.slice (some ⟨g, 0, none⟩) bs.length cap)).run Try.prog w = .ok (.string ⟨bs.toArray⟩) w := by
  have e : strOfNums (bs.map fun b => (b.toNat : Int)) = ⟨bs.toArray⟩ := by
    unfold strOfNums
    congr 2
    rw [List.map_map]
    conv => rhs; rw [← List.map_id bs]
    exact List.map_congr_left (fun b _ => by simp)
  rw [← e]
  refine run_convert_bytes_arg w 29 5 Try.underlying29 Try.underlying5 g 0 bs.length cap _ (by simp) (fun i hi => ?_) 9 Try.underlying9
  rw [Nat.zero_add, h.cell i hi]
  simp [List.getD, hi]
theorem BRow.made (w : World) (s : ByteArray) : BRow (Lib.bytesWorld w 5 s) w.heap.size s.data.toList := by
  refine ⟨_, 5, _, Lib.bytesWorld_at_new w 5 s, ?_, ?_⟩
  · intro j hj
    have := Lib.bytesWorld_cell w 5 s j (by simpa using hj)
    rw [cell_of (Lib.bytesWorld_at_new w 5 s)] at this
    exact this
  · intro j hj hh
    have h1 : (Lib.bytesCells w 5 s).size ≥ s.data.size := by rw [Lib.bytesCells, Array.size_append, Array.size_map]; omega
    have hj' : j < s.data.size := by simpa using hj
    have h2 : (Lib.bytesCells w 5 s).size ≤ j := hh.1
    omega
theorem below_made {w0 w : World} (h : Below w0.heap.size w0 w) (s : ByteArray) : Below w0.heap.size w0 (Lib.bytesWorld w 5 s) := by
  refine h.trans ⟨rfl, rfl, rfl, by rw [Lib.bytesWorld_size]; omega, fun k hk => Lib.bytesWorld_at_old w 5 s k (Nat.lt_of_lt_of_le hk h.size)⟩

/-- Behind i rounds. -/
structure BurstInv (w : World) (t : ByteArray) (g at_ i : Nat) (bs : List UInt8) (wr : World) : Prop where
  len : bs.length = t.size
  num : ∃ v, v < 2 ^ i ∧ Crc.num bs = Crc.num t.data.toList ^^^ (v * 2 ^ at_)
  row : BRow wr g bs
  bel : Below w.heap.size w wr
  own : w.heap.size ≤ g

theorem BurstInv.same {w wr : World} {t : ByteArray} {g at_ i : Nat} {bs : List UInt8} (h : BurstInv w t g at_ i bs wr) : BurstInv w t g at_ (i + 1) bs wr := by
  obtain ⟨v, hv, hn⟩ := h.num
  exact ⟨h.len, ⟨v, by rw [Nat.pow_succ]; omega, hn⟩, h.row, h.bel, h.own⟩
theorem xor8 (B r : Nat) (hB : B < 256) (hr : r < 8) : Go.bits .xor .u8 (B : Int) ((2 : Int) ^ r % 256) = ((B ^^^ 2 ^ r : Nat) : Int) := by
  have h2 := Nat.pow_lt_pow_right (show 1 < 2 by decide) hr
  have e : (2 : Int) ^ r % 256 = ((2 ^ r : Nat) : Int) := by
    have e1 : (2 : Int) ^ r = ((2 ^ r : Nat) : Int) := by simp
    rw [e1]
    generalize 2 ^ r = R at *
    omega
  rw [e]
  exact bits_xor .u8 (fun n h0 h1 => by rw [IntKind.wrap_u8]; exact Int.emod_eq_of_lt h0 h1) B (2 ^ r) hB h2
theorem BurstInv.turn {w wr : World} {t : ByteArray} {g at_ i j r B : Nat} {bs : List UInt8} (h : BurstInv w t g at_ i bs wr) (hj : (at_ + i) / 8 = j) (hr : (at_ + i) % 8 = r) (hin : j < t.size) (hB : (bs.getD j 0).toNat = B) :
    ∃ bs', BurstInv w t g at_ (i + 1) bs' (wr.setCell ⟨g, j, none⟩ (.int .u8 (Go.bits .xor .u8 (B : Int) ((2 : Int) ^ r % 256)))).drew := by
  have hB2 : B < 256 := by rw [← hB]; exact (bs.getD j 0).toNat_lt
  have hr8 : r < 8 := by omega
  have h2 := Nat.pow_lt_pow_right (show 1 < 2 by decide) hr8
  have hx : B ^^^ 2 ^ r < 256 := Nat.xor_lt_two_pow (n := 8) hB2 h2
  have hjl : j < bs.length := by rw [h.len]; exact hin
  refine ⟨bs.set j (UInt8.ofNat (B ^^^ 2 ^ r)), by simp [h.len], ?_, ?_, ?_, h.own⟩
  · obtain ⟨v, hv, hn⟩ := h.num
    have hs := num_set bs j r (UInt8.ofNat (B ^^^ 2 ^ r)) hjl (by rw [hB, UInt8.toNat_ofNat', Nat.mod_eq_of_lt hx])
    refine ⟨v ^^^ 2 ^ i, Nat.xor_lt_two_pow (by rw [Nat.pow_succ]; omega) (Nat.pow_lt_pow_right (by decide) (by omega)), ?_⟩
    rw [hs, hn, Nat.xor_assoc, show 8 * j + r = i + at_ by omega, Nat.pow_add]
    congr 1
    rw [← Nat.shiftLeft_eq, ← Nat.shiftLeft_eq, ← Nat.shiftLeft_eq, Nat.shiftLeft_xor_distrib]
  · have := h.row.set j (UInt8.ofNat (B ^^^ 2 ^ r)) (Go.bits .xor .u8 (B : Int) ((2 : Int) ^ r % 256)) (by rw [xor8 B r hB2 hr8, UInt8.toNat_ofNat', Nat.mod_eq_of_lt hx]) hjl
    exact this
  · exact (h.bel.setCell (p := ⟨g, j, none⟩) h.own _).drew

set_option maxHeartbeats 2000000 in
set_option maxRecDepth 100000 in
theorem crcBursts_walk (s : ByteArray) (at_ bits : Nat) (hs : s.size ≤ 140737488351232) (hat : at_ < 65536) (hbits : bits < 4294967296) (w : World) :
    Calls Try.prog 4 #[.string s, .int .u16 (at_ : Int), .int .u32 (bits : Int)] w fun e w' => e = .returned (.bool true) ∧ Below w.heap.size w w' := by
  go_enter Try.func4, Try.ntmps4
  go_upto_region 3 with (go_at_call 9; refine (speaks01 _).mono ?_; rintro e w1 ⟨rfl, hb1⟩)
  go_cut [0] (fun v0 w' => ∃ t : ByteArray, t.size ≤ 200 ∧ v0 = .string t ∧ w' = w1)
  case first =>
    by_cases h3 : s.size ≤ 200
    · go_wp2
      go_meet
      case rel => refine ⟨_, ?_, rfl, rfl⟩; (first | omega | (rw [ByteArray.size_extract]; omega))
    · go_wp2
      go_meet
      case rel => refine ⟨_, ?_, rfl, rfl⟩; (first | omega | (rw [ByteArray.size_extract]; omega))
  case rest =>
    obtain ⟨t, ht, rfl, rfl⟩ := hcut
    have HI : Hid (BurstInv w t wc.heap.size at_ 0 t.data.toList (Lib.bytesWorld wc 5 t)) :=
      ⟨by simp, ⟨0, by decide, by simp⟩, BRow.made wc t, below_made hb1 t, hb1.size⟩
    clear hb1
    go_wp2_with (refine wpList_conv 9 29 (.tmp 17) rfl rfl _ _ _ rfl (Lib.run_convert_string_bytes wc 9 29 5 t Try.underlying9 Try.underlying29 Try.underlying5) ?_)
    generalize grownCap wc t.size 0 5 = cap at *
    generalize wc.heap.size = g at *
    go_loopw [2, 8] (fun v2 v8 wr => ∃ (i m : Nat) (bs : List UInt8), i ≤ 32 ∧ m < 4294967296 ∧ v8 = .int .i64 (i : Int) ∧ v2 = .int .u32 (m : Int) ∧ Hid (BurstInv w t g at_ i bs wr)) (fun _ v8 _ => 32 - (intOf v8).toNat)
    case atStart => exact ⟨0, bits, _, by omega, hbits, rfl, rfl, HI⟩
    case round =>
      obtain ⟨i, m, bs, hi, hm, rfl, rfl, hI⟩ := hrel
      by_cases hlt : i < 32
      · by_cases hodd : m % 2 = 1
        · by_cases hin : (at_ + i) / 8 < t.size
          · have hb : (Go.bits .and .u32 (m : Int) 1 == 1) = true := by rw [and1 m hm]; simp [hodd]
            obtain ⟨j, hj⟩ : ∃ j, (at_ + i) / 8 = j := ⟨_, rfl⟩
            obtain ⟨r, hr⟩ : ∃ r, (at_ + i) % 8 = r := ⟨_, rfl⟩
            have hjb : j < bs.length := by rw [hI.out.len]; omega
            have hcell := hI.out.row.cell j hjb
            have hfree := hI.out.row.free j hjb
            have e1 : ((at_ : Int) + (i : Int)) / 8 = (j : Int) := by omega
            have e2 : ((at_ : Int) + (i : Int)) % 8 = (r : Int) := by omega
            have hr8 : r < 8 := by omega
            have q0 : (0 : Int) ≤ (j : Int) := by omega
            have q1 : (j : Int) < (t.size : Int) := by omega
            obtain ⟨B, hB⟩ : ∃ B : Nat, (bs.getD j 0).toNat = B := ⟨_, rfl⟩
            rw [hB] at hcell
            have HB := Lib.hid hB
            have Hj := Lib.hid hj
            have Hr := Lib.hid hr
            have Hodd := Lib.hid hodd
            have hturn := hI.out.turn hj hr (by omega) hB
            have Hturn := Lib.hid hturn
            clear hB hj hr hodd hin hjb hturn
            have hm2 : (m : Int) / 2 = ((m / 2 : Nat) : Int) := by omega
            have Hm2 := Lib.hid hm2
            clear hm2
            go_wp2
            go_region
            go_wp2
            go_roundw
            case rel =>
              obtain ⟨bs', hb'⟩ := Hturn.out
              exact ⟨i + 1, m / 2, bs', by omega, by omega, by go_num, by rw [← Hm2.out], hb'⟩
            case measure => simp [intOf]; omega
          · have hb : (Go.bits .and .u32 (m : Int) 1 == 1) = true := by rw [and1 m hm]; simp [hodd]
            have hin2 : ¬ ((at_ : Int) + (i : Int)) / 8 < (t.size : Int) := by omega
            have hm2 : (m : Int) / 2 = ((m / 2 : Nat) : Int) := by omega
            have Hm2 := Lib.hid hm2
            have Hodd := Lib.hid hodd
            clear hm2 hodd hin
            go_wp2
            go_roundw
            case rel => exact ⟨i + 1, m / 2, bs, by omega, by omega, by go_num, by rw [← Hm2.out], hI.out.same⟩
            case measure => simp [intOf]; omega
        · have hb : (Go.bits .and .u32 (m : Int) 1 == 1) = false := by rw [and1 m hm]; simp; omega
          have hm2 : (m : Int) / 2 = ((m / 2 : Nat) : Int) := by omega
          have Hm2 := Lib.hid hm2
          clear hm2 hodd
          go_wp2
          go_roundw
          case rel => exact ⟨i + 1, m / 2, bs, by omega, by omega, by go_num, by rw [← Hm2.out], hI.out.same⟩
          case measure => simp [intOf]; omega
      · obtain rfl : i = 32 := by omega
        obtain ⟨T, hT⟩ : ∃ T : ByteArray, T.data.toList = bs := ⟨⟨bs.toArray⟩, by simp⟩
        have hTs : T.size = t.size := by have := congrArg List.length hT; rw [hI.out.len] at this; simpa using this
        have hconv : ∀ nq, (convert 29 9 (.slice (some ⟨g, 0, none⟩) t.size cap)).run Try.prog (wr.drewN nq) = .ok (.string T) (wr.drewN nq) := fun nq => by
          have := (hI.out.row.drewN nq).str (cap := cap)
          rw [hI.out.len] at this
          rw [this, ← hT]
        obtain ⟨v, hv, hn⟩ := hI.out.num
        have hburst := burst t.data.toList T.data.toList 0 at_ v (by rw [hT, hI.out.len]; simp) (by simpa using hv) (by rw [hT]; exact hn)
        have c1 : ∀ W, Calls Try.prog 12 #[.string T] W fun e w' => e = .returned (.int .u32 (add 0 T.data.toList : Nat)) ∧ w' = W := fun W => (crc_sum T (by omega) W).mono fun _ _ ⟨he, hw⟩ => ⟨he, hw.symm⟩
        have c2 : ∀ W, Calls Try.prog 12 #[.string t] W fun e w' => e = .returned (.int .u32 (add 0 t.data.toList : Nat)) ∧ w' = W := fun W => (crc_sum t (by omega) W).mono fun _ _ ⟨he, hw⟩ => ⟨he, hw.symm⟩
        obtain ⟨x, hx⟩ : ∃ x, add 0 T.data.toList = x := ⟨_, rfl⟩
        obtain ⟨y, hy⟩ : ∃ y, add 0 t.data.toList = y := ⟨_, rfl⟩
        rw [hx] at c1 hburst
        rw [hy] at c2 hburst
        have C1 := Lib.hid c1
        have C2 := Lib.hid c2
        have HBt := Lib.hid hburst
        clear c1 c2 hburst hv hn hT hTs hx hy
        go_upto_region 12 with fail
        go_quiet ((first | (go_at_call 12; first | exact Calls.quiet_of_same (C1.out _) | exact Calls.quiet_of_same (C2.out _))))
        go_wp2
        go_ret
        refine ⟨congrArg (fun b => Ending.returned (.bool b)) ?_, (hI.out.bel.trans ⟨rfl, rfl, rfl, Nat.le_refl _, fun _ _ => rfl⟩)⟩
        show (((x : Int) == (y : Int)) == (T.toList == t.toList)) = true
        have hb := HBt.out
        rw [Go.ByteArray.toList_eq, Go.ByteArray.toList_eq]
        by_cases h : x = y
        · have h2 := hb.1 h
          rw [h2]; simp [h]
        · have h2 : ¬ T.data.toList = t.data.toList := fun e => h (hb.2 e)
          have e1 : ((x : Int) == (y : Int)) = false := by simp; omega
          have e2 : (T.data.toList == t.data.toList) = false := by simpa using h2
          rw [e1, e2]; rfl

theorem crcBursts_any (s : ByteArray) (a b : Int) (hs : s.size ≤ 140737488351232) (ha : 0 ≤ a ∧ a < 65536) (hb : 0 ≤ b ∧ b < 4294967296) (w : World) :
    Calls Try.prog 4 #[.string s, .int .u16 a, .int .u32 b] w fun e w' => e = .returned (.bool true) ∧ Below w.heap.size w w' := by
  obtain ⟨x, rfl⟩ := Int.eq_ofNat_of_zero_le ha.1
  obtain ⟨y, rfl⟩ := Int.eq_ofNat_of_zero_le hb.1
  exact crcBursts_walk s x y hs (by omega) (by omega) w
end Go.Proofs.Ytfmoagdhajfngaa
