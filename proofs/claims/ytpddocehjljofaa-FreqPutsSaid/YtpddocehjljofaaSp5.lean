/- The laws of layer 5: what they all ask first. -/
import Derived.Test.YtpddocehjljofaaOw
namespace Go.Proofs.Ytpddocehjljofaa
set_option linter.unusedVariables false
open Go.RowKit Go.My

def noN : UInt8 → Bool := bySign (fun _ => false)
def sp5T : Fq.T := ((Fq.T.none_.add 97).add 98).add 97
def sp5O : List Rc.Op := [sp5T.putOp 98 noN, sp5T.putOp 99 noN]
theorem sp5_ok : Fq.T.none_.Ok ∧ (Fq.T.none_.add 97).Ok ∧ ((Fq.T.none_.add 97).add 98).Ok ∧ sp5T.Ok :=
  ⟨Fq.T.Ok.none_, Fq.T.Ok.none_.add 97, (Fq.T.Ok.none_.add 97).add 98, ((Fq.T.Ok.none_.add 97).add 98).add 97⟩
theorem sp5_a : sp5T.isIn 98 noN = true ∧ sp5T.isIn 99 noN = false ∧ decide (sp5T.s.idxOf 97 < sp5T.s.length) = true ∧ (Rc.bytes sp5O).length ≤ 1000000000 := by decide +kernel
theorem sp5_g : (sp5T.get noN (Rc.D.read (Rc.bytes sp5O))).1 = (98, true) ∧ (sp5T.get noN (sp5T.get noN (Rc.D.read (Rc.bytes sp5O))).2).1.2 = false ∧ (sp5T.get noN (sp5T.get noN (Rc.D.read (Rc.bytes sp5O))).2).2.done = true := by decide +kernel

set_option maxHeartbeats 4000000 in
set_option maxRecDepth 100000 in
theorem speaks05 (w : World) : Calls Try.prog 47 #[] w fun r w' => r = .returned (.bool true) ∧ Fr (fun _ => False) w w' := by
  obtain ⟨k0, k1, k2, k3⟩ := sp5_ok
  obtain ⟨a1, a2, a3, a4⟩ := sp5_a
  obtain ⟨g1, g2, g3⟩ := sp5_g
  have hadd1 := fun (wr : World) (l : List Thing) p v1 v2 (h : Own w wr l) (hx : l[0]? = some (tabO p Fq.T.none_ v1 v2)) => own_add h 0 p _ v1 v2 hx k0 97
  have hadd2 := fun (wr : World) (l : List Thing) p v1 v2 (h : Own w wr l) (hx : l[0]? = some (tabO p (Fq.T.none_.add 97) v1 v2)) => own_add h 0 p _ v1 v2 hx k1 98
  have hadd3 := fun (wr : World) (l : List Thing) p v1 v2 (h : Own w wr l) (hx : l[0]? = some (tabO p ((Fq.T.none_.add 97).add 98) v1 v2)) => own_add h 0 p _ v1 v2 hx k2 97
  rw [show ((Fq.T.none_.add 97).add 98).add 97 = sp5T from rfl] at hadd3
  have hput1 := fun (wr : World) (l : List Thing) p v1 v2 pe v (h : Own w wr l) (hx : l[0]? = some (tabO p sp5T v1 v2)) (he : l[1]? = some (encO pe v [])) => own_put h 0 1 p pe sp5T v1 v2 v [] hx he k3 (by decide) (.pointer none) (fun _ => false) 0 .none_ 98
  have hput2 := fun (wr : World) (l : List Thing) p v1 v2 pe v (h : Own w wr l) (hx : l[0]? = some (tabO p sp5T v1 v2)) (he : l[1]? = some (encO pe v ([] ++ [sp5T.putOp 98 noN]))) => own_put h 0 1 p pe sp5T v1 v2 v _ hx he k3 (by decide) (.pointer none) (fun _ => false) 0 .none_ 99
  have hget1 := fun (wr : World) (l : List Thing) p v1 v2 pd (h : Own w wr l) (hx : l[0]? = some (tabO p sp5T v1 v2)) (he : l[2]? = some (decO pd (Rc.D.read (Rc.bytes sp5O)))) => own_get h 0 2 p pd sp5T v1 v2 _ hx he k3 (.pointer none) (fun _ => false) 0 .none_
  have hget2 := fun (wr : World) (l : List Thing) p v1 v2 pd (h : Own w wr l) (hx : l[0]? = some (tabO p sp5T v1 v2)) (he : l[2]? = some (decO pd (sp5T.get noN (Rc.D.read (Rc.bytes sp5O))).2)) => own_get h 0 2 p pd sp5T v1 v2 _ hx he k3 (.pointer none) (fun _ => false) 0 .none_
  rw [show bySign (fun _ => false) = noN from rfl] at hput1 hput2 hget1 hget2
  rw [a1] at hput1
  rw [a2] at hput2
  rw [g1] at hget1
  rw [g2] at hget2
  have hhas := fun (wr : World) p v1 v2 (h : TabAt wr p sp5T v1 v2) => tab_has p sp5T v1 v2 97 wr h (by decide +kernel)
  rw [a3] at hhas
  obtain ⟨T, hT⟩ : ∃ T, sp5T = T := ⟨_, rfl⟩
  obtain ⟨O, hO⟩ : ∃ O, sp5O = O := ⟨_, rfl⟩
  rw [hO] at hget1 hget2 g3 a4
  rw [show ([] ++ [sp5T.putOp 98 noN]) ++ [sp5T.putOp 99 noN] = O from hO] at hput2
  obtain ⟨G1, hG1⟩ : ∃ G1, (sp5T.get noN (Rc.D.read (Rc.bytes O))).2 = G1 := ⟨_, rfl⟩
  obtain ⟨G2, hG2⟩ : ∃ G2, (sp5T.get noN G1).2 = G2 := ⟨_, rfl⟩
  rw [hG1] at hget1 hget2 g3
  rw [hG2] at hget2 g3
  have hOl : O.length ≤ 100000000 := by rw [← hO]; decide
  clear hG2 hG1 hO k0 k1 k2 k3 g1 g2 a1 a2 a3
  rw [hT] at hadd3 hput1 hput2 hget1 hget2 hhas
  clear hT
  have Hadd1 := Lib.hid hadd1
  have Hadd2 := Lib.hid hadd2
  have Hadd3 := Lib.hid hadd3
  have Hput1 := Lib.hid hput1
  have Hput2 := Lib.hid hput2
  have Hget1 := Lib.hid hget1
  have Hget2 := Lib.hid hget2
  have Hhas := Lib.hid hhas
  have HOl := Lib.hid hOl
  have G3 := Lib.hid g3
  have A4 := Lib.hid a4
  clear hadd1 hadd2 hadd3 hput1 hput2 hget1 hget2 hhas hOl g3 a4
  go_enter Try.func47, Try.ntmps47
  go_upto_region 2 with (go_at_call 48; refine (own_tnew (Own.nil w)).mono ?_; rintro r w1 ⟨rfl, h⟩; have H1 := Lib.hid h; clear h)
  obtain ⟨p, hp⟩ : ∃ p, w.heap.size = p := ⟨_, rfl⟩
  rw [hp] at H1 ⊢
  clear hp
  go_upto_region 3 with (go_at_call 49; refine (Hadd1.out w1 _ p _ _ H1.out rfl).mono ?_; rintro r w2 ⟨rfl, v1, v2, h⟩; have H2 := Lib.hid h; clear h)
  go_upto_region 4 with (go_at_call 49; refine (Hadd2.out w2 _ p v1 v2 H2.out rfl).mono ?_; rintro r w3 ⟨rfl, v3, v4, h⟩; have H3 := Lib.hid h; clear h)
  go_upto_region 5 with (go_at_call 49; refine (Hadd3.out w3 _ p v3 v4 H3.out rfl).mono ?_; rintro r w4 ⟨rfl, v5, v6, h⟩; have H4 := Lib.hid h; clear h)
  go_upto_region 6 with (go_at_call 13; refine (own_enew H4.out).mono ?_; rintro r w5 ⟨rfl, h⟩; have H5 := Lib.hid h; clear h)
  obtain ⟨pe, hp⟩ : ∃ p, w4.heap.size = p := ⟨_, rfl⟩
  rw [hp] at H5 ⊢
  clear hp
  go_upto_region 7 with (go_at_call 59; refine (Hput1.out w5 _ p v5 v6 pe _ H5.out rfl rfl).mono ?_; rintro r w6 ⟨rfl, v7, h⟩; have H6 := Lib.hid h; clear h)
  go_upto_region 8 with (go_at_call 59; refine (Hput2.out w6 _ p v5 v6 pe v7 H6.out rfl rfl).mono ?_; rintro r w7 ⟨rfl, v8, h⟩; have H7 := Lib.hid h; clear h)
  go_upto_region 9 with (first
    | (go_at_call 22; refine (own_end H7.out 1 pe v8 O rfl HOl.out).mono ?_; rintro r w8 ⟨rfl, h⟩; have H8 := Lib.hid h; clear h)
    | (go_at_call 24; refine (own_dnew H8.out _ A4.out).mono ?_; rintro r w9 ⟨rfl, h⟩; have H9 := Lib.hid h; clear h))
  obtain ⟨pd, hp⟩ : ∃ p, w8.heap.size = p := ⟨_, rfl⟩
  rw [hp] at H9 ⊢
  clear hp
  go_upto_region 10 with (go_at_call 61; refine (Hget1.out w9 _ p v5 v6 pd H9.out rfl rfl).mono ?_; rintro r w10 ⟨rfl, h⟩; have H10 := Lib.hid h; clear h)
  go_upto_region 11 with (go_at_call 61; refine (Hget2.out w10 _ p v5 v6 pd H10.out rfl rfl).mono ?_; rintro r w11 ⟨rfl, h⟩; have H11 := Lib.hid h; clear h)
  have hh := Hhas.out w11 p v5 v6 (H11.out.get 0 rfl)
  have hd := dec_done pd G2 w11 (H11.out.get (x := decO pd G2) 2 rfl).1
  rw [G3.out] at hd
  have Hh := Lib.hid hh
  have Hd := Lib.hid hd
  clear hh hd
  go_wp2_with (first
    | (go_at_call 52; refine Hh.out.mono ?_; rintro r w12 ⟨rfl, rfl⟩)
    | (go_at_call 30; refine Hd.out.mono ?_; rintro r w12 ⟨rfl, rfl⟩))
  go_ret
  exact ⟨rfl, H11.out.fr⟩
end Go.Proofs.Ytpddocehjljofaa
