/- The laws of layer 4: what they all ask first. -/
import Derived.Test.YtpddocehjljofaaPz
import Derived.Test.YtpddocehjljofaaRv
namespace Go.Proofs.Ytpddocehjljofaa
set_option linter.unusedVariables false
open Go.RowKit Go.My

def sp4T : List Nat := (Rc.putT (List.replicate 8 1024) 1 (Rc.bitsHi 5 3)).2.1
def sp4O : List Rc.Op := (Rc.putT (List.replicate 8 1024) 1 (Rc.bitsHi 5 3)).1
theorem sp4_t : sp4T.getD 1 0 = 992 ∧ sp4T.getD 3 0 = 1056 ∧ sp4T.getD 6 0 = 992 ∧ sp4T.length = 8 := by decide +kernel
theorem sp4_u : (Rc.getT (Rc.D.read (Rc.bytes sp4O)) (List.replicate 8 1024) 1 3).2.2.2 = 13 ∧ (Rc.getT (Rc.D.read (Rc.bytes sp4O)) (List.replicate 8 1024) 1 3).2.2.1.getD 6 0 = 992 ∧ (Rc.getT (Rc.D.read (Rc.bytes sp4O)) (List.replicate 8 1024) 1 3).2.2.1.length = 8 := by decide +kernel
theorem sp4_len : (Rc.bytes sp4O).length ≤ 1000000000 := by decide +kernel

theorem new8 (w : World) : Calls Try.prog 37 #[.int .i64 3] w fun r w' => r = .returned (.slice (some ⟨w.heap.size, 0, none⟩) 8 8) ∧ TrAt w' w.heap.size (List.replicate 8 1024) ∧ Fr (fun _ => False) w w' := tree_new 3 3 (by decide) (by decide) w

set_option maxHeartbeats 4000000 in
set_option maxRecDepth 100000 in
theorem speaks04 (w : World) : Calls Try.prog 36 #[] w fun r w' => r = .returned (.bool true) ∧ Fr (fun _ => False) w w' := by
  obtain ⟨T, hT⟩ : ∃ T, sp4T = T := ⟨_, rfl⟩
  obtain ⟨O, hO⟩ : ∃ O, sp4O = O := ⟨_, rfl⟩
  have hpl : Rc.Pl (List.replicate 8 1024) 8 := Rc.Pl.new 8
  have ht := sp4_t
  have hu := sp4_u
  have hl := sp4_len
  rw [hT] at ht
  rw [hO] at hu hl
  obtain ⟨G, hG⟩ : ∃ G, Rc.getT (Rc.D.read (Rc.bytes O)) (List.replicate 8 1024) 1 3 = G := ⟨_, rfl⟩
  rw [hG] at hu
  have HT := Lib.hid hT
  have HO := Lib.hid hO
  have HG := Lib.hid hG
  have Hpl := Lib.hid hpl
  have Ht := Lib.hid ht
  have Hu := Lib.hid hu
  have Hl := Lib.hid hl
  clear hT hO hG hpl ht hu hl
  go_enter Try.func36, Try.ntmps36
  go_upto_region 2 with (first
    | (go_at_call 37; (with_reducible refine (new8 w).mono ?_); rintro r w1 ⟨rfl, h1, h2⟩; have HA1 := Lib.hid h1; have HF1 := Lib.hid h2; clear h1 h2)
    | (go_at_call 37; (with_reducible refine (new8 w1).mono ?_); rintro r w2 ⟨rfl, h1, h2⟩; have HB2 := Lib.hid h1; have HA2 := Lib.hid (HA1.out.keep h2 (fun h => h)); have HF2 := Lib.hid (HF1.out.trans h2 (fun _ h => h.elim)); have hab : w.heap.size < w1.heap.size := lt_of_block HA1.out; have Hab := Lib.hid hab; clear h1 h2 hab))
  go_upto_region 4 with (first
    | (go_at_call 13; (with_reducible refine (enc_new w2).mono ?_); rintro r w3 ⟨rfl, h1, h2⟩; have HE3 := Lib.hid h1; have HA3 := Lib.hid (HA2.out.keep h2 (fun h => h)); have HB3 := Lib.hid (HB2.out.keep h2 (fun h => h)); have HF3 := Lib.hid (HF2.out.trans h2 (fun _ h => h.elim)); clear h1 h2; have hput := tree_put w2.heap.size (.slice none 0 0) [] w.heap.size (List.replicate 8 1024) 8 3 8 8 5 w3 HE3.out (by decide) HA3.out Hpl.out (by decide) (by decide) (by decide) (by decide) (by decide); rw [List.nil_append, show (Rc.putT (List.replicate 8 1024) 1 (Rc.bitsHi 5 3)).1 = O from HO.out, show (Rc.putT (List.replicate 8 1024) 1 (Rc.bitsHi 5 3)).2.1 = T from HT.out] at hput; have Hput := Lib.hid hput; clear hput)
    | (go_at_call 40; refine Hput.out.mono ?_; rintro r w4 ⟨rfl, v4, h1, h2, h3, h4⟩; have HE4 := Lib.hid h1; have HA4 := Lib.hid h2; have HB4 := Lib.hid (HB3.out.keep h3 (by rintro (h | h); exact HE3.out.away HB3.out (by decide) (by decide) h; exact absurd h (Nat.ne_of_gt Hab.out))); have HF4 := Lib.hid (HF3.out.trans h3 (fun k hk => .inr (by rcases hk with (h | h) | h; (subst h; exact HF2.out.size); (cases h); (subst h; exact Nat.le_refl _)))); clear h1 h2 h3 h4))
  have hend := end_ops _ _ _ w4 HE4.out (by have : O.length = 3 := (by rw [← HO.out]; decide +kernel); omega)
  have Hend := Lib.hid hend
  clear hend
  go_upto_region 5 with (first
    | (go_at_call 22; refine Hend.out.mono ?_; rintro r w5 ⟨rfl, h2⟩; have HA5 := Lib.hid (HA4.out.keep h2 (fun h => h)); have HB5 := Lib.hid (HB4.out.keep h2 (fun h => h)); have HF5 := Lib.hid (HF4.out.trans h2 (fun _ h => h.elim)); clear h2; have hd := dec_new (Rc.bytes O) w5 Hl.out; have Hd := Lib.hid hd; clear hd)
    | (go_at_call 24; refine Hd.out.mono ?_; rintro r w6 ⟨rfl, h1, h3, h2⟩; have HD6 := Lib.hid h1; have HG6 := Lib.hid h3; have HA6 := Lib.hid (HA5.out.keep h2 (fun h => h)); have HB6 := Lib.hid (HB5.out.keep h2 (fun h => h)); have HF6 := Lib.hid (HF5.out.trans h2 (fun _ h => h.elim)); have Hz6 := Lib.hid (HF5.out.size); clear h1 h2 h3))
  have hget := tree_get w5.heap.size _ w1.heap.size _ 8 3 8 8 w6 HD6.out HG6.out HB6.out Hpl.out (by decide) (by decide) (by decide) (by decide)
  rw [HG.out, Hu.out.1] at hget
  have hget : Calls Try.prog 44 #[.slice (some ⟨w1.heap.size, 0, none⟩) 8 8, .pointer (some ⟨w5.heap.size, 0, none⟩)] w6 fun r w' => r = .returned (.int .i64 5) ∧ GetPost w6 w5.heap.size w1.heap.size 8 G.2.1 G.2.2.1 w' := hget
  have Hget := Lib.hid hget
  clear hget
  go_wp2_with (go_at_call 44; refine Hget.out.mono ?_; rintro r w7 ⟨rfl, h1⟩; have HF7 := Lib.hid (HF6.out.trans h1.fr (fun k hk => .inr (by rcases hk with h | h; (subst h; exact HF5.out.size); (subst h; exact HF1.out.size)))); have hA7 := HA6.out.keep h1.fr (by rintro (h | h); exact HD6.out.away HA6.out h; exact absurd h (Nat.ne_of_lt Hab.out)); have a1 := hA7.get (k := 1) (by rw [Ht.out.2.2.2]; decide); have a3 := hA7.get (k := 3) (by rw [Ht.out.2.2.2]; decide); have a6 := hA7.get (k := 6) (by rw [Ht.out.2.2.2]; decide); have b6 := h1.tr.get (k := 6) (by rw [Hu.out.2.2]; decide); rw [Ht.out.1] at a1; rw [Ht.out.2.1] at a3; rw [Ht.out.2.2.1] at a6; rw [Hu.out.2.1] at b6; clear h1 hA7)
  go_ret
  exact ⟨rfl, HF7.out⟩
end Go.Proofs.Ytpddocehjljofaa
