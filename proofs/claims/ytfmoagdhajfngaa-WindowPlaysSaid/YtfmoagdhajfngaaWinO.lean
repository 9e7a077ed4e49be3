/- Layer 2 (window): contracts of a window that the call itself has made; plain facts on copies. -/
import Derived.Test.YtfmoagdhajfngaaWinC
namespace Go.Proofs.Ytfmoagdhajfngaa
open Go.RowKit Go.My

/-- A window of the call's own: made behind w0; below w0's blocks nothing has turned. -/
def OwnWin (w0 w : World) (p : Nat) (most : Int) (bs : List UInt8) : Prop :=
  ∃ v, WinAt w p most bs v ∧ w0.heap.size ≤ p ∧ (∀ k, v.ownBlock = some k → w0.heap.size ≤ k) ∧ Below w0.heap.size w0 w

theorem OwnWin.below {w0 w : World} {p : Nat} {most : Int} {bs : List UInt8} (h : OwnWin w0 w p most bs) : Below w0.heap.size w0 w := by obtain ⟨_, _, _, _, h⟩ := h; exact h
theorem OwnWin.len {w0 w : World} {p : Nat} {most : Int} {bs : List UInt8} (h : OwnWin w0 w p most bs) : (bs.length : Int) ≤ 1000000000 := by obtain ⟨_, h, _⟩ := h; exact h.len
theorem OwnWin.drewN {w0 w : World} {p : Nat} {most : Int} {bs : List UInt8} (h : OwnWin w0 w p most bs) (n : Nat) : OwnWin w0 (w.drewN n) p most bs := by
  obtain ⟨v, h, h1, h2, h3⟩ := h
  exact ⟨v, h.drewN n, h1, h2, ⟨h3.os, h3.tape, h3.output, h3.size, h3.block⟩⟩
theorem OwnWin.dr {w0 w w' : World} {p : Nat} {most : Int} {bs : List UInt8} (h : OwnWin w0 w p most bs) (hd : Dr w w') : OwnWin w0 w' p most bs := by
  obtain ⟨n, rfl⟩ := hd; exact h.drewN n

theorem below_fr {w0 w w' : World} {S : Nat → Prop} (h : Below w0.heap.size w0 w) (hf : Fr S w w') (hS : ∀ k, S k → w0.heap.size ≤ k) : Below w0.heap.size w0 w' :=
  h.trans ⟨hf.os, hf.tape, hf.output, hf.size, fun k hk => hf.block k (Nat.lt_of_lt_of_le hk h.size) (fun hs => by have := hS k hs; omega)⟩

theorem own_new (w0 w : World) (hb : Below w0.heap.size w0 w) (most : Int) :
    Calls Try.prog 15 #[.int .i64 most] w fun e w' => e = .returned (.pointer (some ⟨w.heap.size, 0, none⟩)) ∧ OwnWin w0 w' w.heap.size (if most < 0 then 0 else most) [] := by
  refine (win_new most w).mono ?_
  rintro e w' ⟨rfl, rfl⟩
  refine ⟨rfl, .slice none 0 0, ⟨?_, World.ownsRow_nil _ _ _ _, by simp [Value.ownBlock], by simp⟩, hb.size, by simp [Value.ownBlock], hb.alloc hb.size _⟩
  exact heap_alloc_new w _

theorem own_put (w0 w : World) (p : Nat) (most x : Int) (b : UInt8) (hx : x = b.toNat) (bs : List UInt8) (h : OwnWin w0 w p most bs) (hl : (bs.length : Int) < most) (hm : (bs.length : Int) < 1000000000) :
    Calls Try.prog 16 #[.pointer (some ⟨p, 0, none⟩), .int .u8 x] w fun e w' => e = .returned (.bool true) ∧ OwnWin w0 w' p most (bs ++ [b]) := by
  obtain ⟨v, hw, h1, h2, h3⟩ := h
  refine (put_true p most x b hx bs v w hw hl hm).mono ?_
  rintro e w' ⟨rfl, v', hw', hf, hg⟩
  refine ⟨rfl, v', hw', h1, fun k hk => (hg k hk).elim (h2 k) (fun h => Nat.le_trans h3.size h), below_fr h3 hf ?_⟩
  rintro k (rfl | hk)
  · exact h1
  · exact h2 k hk
theorem own_put_no (w0 w : World) (p : Nat) (most x : Int) (bs : List UInt8) (h : OwnWin w0 w p most bs) (hl : most ≤ (bs.length : Int)) :
    Calls Try.prog 16 #[.pointer (some ⟨p, 0, none⟩), .int .u8 x] w fun e w' => e = .returned (.bool false) ∧ OwnWin w0 w' p most bs := by
  obtain ⟨v, hw, _⟩ := id h
  exact (put_false p most x bs v w hw hl).mono fun e w' ⟨he, hd⟩ => ⟨he, h.dr hd⟩
theorem own_copy (w0 w : World) (p : Nat) (most : Int) (d n : Nat) (bs : List UInt8) (h : OwnWin w0 w p most bs) (hm : 0 ≤ most ∧ most ≤ 9223372036854775807) (h1 : 1 ≤ d) (h2 : d ≤ bs.length) (h3 : (n : Int) ≤ most - bs.length) (h4 : (bs.length : Int) + n ≤ 1000000000) :
    Calls Try.prog 17 #[.pointer (some ⟨p, 0, none⟩), .int .i64 (d : Int), .int .i64 (n : Int)] w fun e w' => e = .returned (.bool true) ∧ OwnWin w0 w' p most (cpy d n bs) := by
  obtain ⟨v, hw, g1, g2, g3⟩ := h
  refine (copy_true p most d n bs v w hw hm h1 h2 h3 h4).mono ?_
  rintro e w' ⟨rfl, v', hw', hf, hg⟩
  refine ⟨rfl, v', hw', g1, fun k hk => (hg k hk).elim (g2 k) (fun h => Nat.le_trans g3.size h), below_fr g3 hf ?_⟩
  rintro k (rfl | hk)
  · exact g1
  · exact g2 k hk
theorem own_copy_no (w0 w : World) (p : Nat) (most d n : Int) (bs : List UInt8) (h : OwnWin w0 w p most bs) (hm : 0 ≤ most ∧ most ≤ 9223372036854775807) (hd : d < 1 ∨ (bs.length : Int) < d ∨ n < 0 ∨ most - bs.length < n) :
    Calls Try.prog 17 #[.pointer (some ⟨p, 0, none⟩), .int .i64 d, .int .i64 n] w fun e w' => e = .returned (.bool false) ∧ OwnWin w0 w' p most bs := by
  obtain ⟨v, hw, _⟩ := id h
  exact (copy_false p most d n bs v w hw hm hd).mono fun e w' ⟨he, hdr⟩ => ⟨he, h.dr hdr⟩
theorem own_len (w0 w : World) (p : Nat) (most : Int) (bs : List UInt8) (h : OwnWin w0 w p most bs) :
    Calls Try.prog 20 #[.pointer (some ⟨p, 0, none⟩)] w fun e w' => e = .returned (.int .i64 bs.length) ∧ w = w' := by
  obtain ⟨v, hw, _⟩ := h
  exact win_len p most bs v w hw
theorem own_str (w0 w : World) (p : Nat) (most : Int) (s : ByteArray) (h : OwnWin w0 w p most s.data.toList) :
    Calls Try.prog 18 #[.pointer (some ⟨p, 0, none⟩)] w fun e w' => e = .returned (.string s) ∧ w = w' := by
  obtain ⟨v, hw, _⟩ := h
  exact (win_text p most _ v w hw).mono fun e w' ⟨he, hw⟩ => ⟨he.trans (by simp), hw⟩
theorem own_at_no (w0 w : World) (p : Nat) (most d : Int) (bs : List UInt8) (h : OwnWin w0 w p most bs) (hd : d < 1 ∨ (bs.length : Int) < d) :
    Calls Try.prog 19 #[.pointer (some ⟨p, 0, none⟩), .int .i64 d] w fun e w' => e = .returned (.tuple #[.int .u8 0, .bool false]) ∧ w = w' := by
  obtain ⟨v, hw, _⟩ := h
  exact at_false p most d bs v w hw hd
theorem own_at (w0 w : World) (p : Nat) (most : Int) (d : Nat) (bs : List UInt8) (h : OwnWin w0 w p most bs) (h1 : 1 ≤ d) (h2 : d ≤ bs.length) :
    Calls Try.prog 19 #[.pointer (some ⟨p, 0, none⟩), .int .i64 (d : Int)] w fun e w' => e = .returned (.tuple #[.int .u8 ((bs.getD (bs.length - d) 0).toNat : Int), .bool true]) ∧ OwnWin w0 w' p most bs := by
  obtain ⟨v, hw, _⟩ := id h
  exact (at_true p most d bs v w hw h1 h2).mono fun e w' ⟨he, hd⟩ => ⟨he, h.dr hd⟩

/-! ### Plain facts on copies -/
theorem cpy_length (d : Nat) : ∀ (n : Nat) (l : List UInt8), (cpy d n l).length = l.length + n
  | 0, l => rfl
  | n + 1, l => by rw [cpy, cpy_length d n]; simp; omega
theorem cpy_prefix (d : Nat) : ∀ (n : Nat) (l : List UInt8), ∃ r, cpy d n l = l ++ r
  | 0, l => ⟨[], by simp [cpy]⟩
  | n + 1, l => by
    obtain ⟨r, h⟩ := cpy_prefix d n (l ++ [l.getD (l.length - d) 0])
    exact ⟨[l.getD (l.length - d) 0] ++ r, by rw [cpy, h, List.append_assoc]⟩
theorem cpy_take (d n : Nat) (l : List UInt8) : (cpy d n l).take l.length = l := by
  obtain ⟨r, h⟩ := cpy_prefix d n l
  rw [h]; simp
theorem cpy_old (d n : Nat) (l : List UInt8) (i : Nat) (h : i < l.length) : (cpy d n l).getD i 0 = l.getD i 0 := by
  obtain ⟨r, hr⟩ := cpy_prefix d n l
  rw [hr]
  simp only [List.getD]
  rw [List.getElem?_append_left h]
theorem cpy_turns (d : Nat) (h1 : 1 ≤ d) : ∀ (n : Nat) (l : List UInt8), d ≤ l.length → ∀ i, l.length ≤ i → i < l.length + n → (cpy d n l).getD i 0 = (cpy d n l).getD (i - d) 0
  | 0, l, _, i, hi, hj => by omega
  | n + 1, l, hd, i, hi, hj => by
    rw [cpy]
    rcases Nat.eq_or_lt_of_le hi with rfl | hlt
    · rw [cpy_old d n _ _ (by simp), cpy_old d n _ _ (by simp; omega)]
      simp only [List.getD]
      rw [List.getElem?_append_right (Nat.le_refl _), List.getElem?_append_left (by omega)]
      simp
    · exact cpy_turns d h1 n (l ++ [l.getD (l.length - d) 0]) (by simp; omega) i (by simp; omega) (by simp; omega)

theorem str_known (w0 w : World) (p : Nat) (h : OwnWin w0 w p 9 (cpy 2 3 [97, 98])) : Calls Try.prog 18 #[.pointer (some ⟨p, 0, none⟩)] w fun e w' => e = .returned (.string ⟨#[97, 98, 97, 98, 97]⟩) ∧ w = w' :=
  own_str w0 w p 9 ⟨#[97, 98, 97, 98, 97]⟩ h

set_option maxRecDepth 100000 in
theorem speaks02 (w : World) : Calls Try.prog 14 #[] w fun e w' => e = .returned (.bool true) ∧ Below w.heap.size w w' := by
  go_enter Try.func14, Try.ntmps14
  go_wp2_with fail
  refine (own_new w w (Below.refl _ _) 9).mono ?_
  rintro e w1 ⟨rfl, h1⟩
  have H1 := Lib.hid h1
  clear h1
  go_wp2_with fail
  refine (own_put w w1 _ 9 97 97 rfl [] H1.out (by simp) (by simp)).mono ?_
  rintro e w2 ⟨rfl, h2⟩
  have H2 := Lib.hid h2
  clear h2
  go_wp2_with fail
  refine (own_put w w2 _ 9 98 98 rfl _ H2.out (by simp) (by simp)).mono ?_
  rintro e w3 ⟨rfl, h3⟩
  have H3 := Lib.hid h3
  clear h3
  go_wp2_with fail
  refine (own_copy w w3 _ 9 2 3 _ H3.out (by omega) (by omega) (by simp) (by simp) (by simp)).mono ?_
  rintro e w4 ⟨rfl, h4⟩
  have H4 := Lib.hid h4
  clear h4
  go_wp2_with fail
  refine (str_known w w4 _ H4.out).mono ?_
  rintro e w' ⟨rfl, rfl⟩
  go_wp2_with fail
  refine (own_len w w4 _ 9 _ H4.out).mono ?_
  rintro e w' ⟨rfl, rfl⟩
  go_wp2
  go_ret
  exact ⟨rfl, H4.out.below⟩
end Go.Proofs.Ytfmoagdhajfngaa
