/- Walks of layer 17 (arena): Take and Free, with the arena's own blocks alone turned. -/
import Derived.Test.YtfmoagdhajfngaaAp
set_option linter.unusedVariables false
set_option linter.unusedSimpArgs false
namespace Go.Proofs.Ytfmoagdhajfngaa
open Go.RowKit Go.My

set_option maxRecDepth 100000 in
theorem i_takeF {B : Nat} {w : World} {p room : Nat} {u f : Value} {us : List Cl} (h : Ar 76 78 79 B w p room u f us []) (hroom : us.length < room) (hsm : us.length ≤ 100000) (hB : B ≤ w.heap.size) (x : Int) :
    Calls Try.prog 30 #[.pointer (some ⟨p, 0, none⟩), (.int .i64 x)] w fun e w' => e = .returned (.tuple #[.int .i64 ((us.length : Int) + 1), .bool true]) ∧ ∃ u' b, Ar 76 78 79 B w' p room u' f (us ++ [(b, (.int .i64 x), true)]) [] ∧ Step w w' (Foot p u f us) (Foot p u' f (us ++ [(b, (.int .i64 x), true)])) := by
  obtain ⟨i0, hi, hz0, hz1, hz2⟩ := info_parts i_info
  have hl := i_left h (by simp)
  have h3 := h.big
  have hne : (room : Int) - us.length + ([] : List Nat).length ≠ 0 := by simp; omega
  generalize (room : Int) - us.length + ([] : List Nat).length = left at *
  have hne' : (left == 0) = false := by simpa using hne
  have Hl := Lib.hid hl
  have HA := Lib.hid h
  have Hi := Lib.hid hi
  have Hz0 := Lib.hid hz0
  have Hz1 := Lib.hid hz1
  have Hz2 := Lib.hid hz2
  have HB := Lib.hid hB
  have HR := Lib.hid hroom
  clear hl hi hz0 hz1 hz2 hne hB hroom
  obtain ⟨a2, cap2, hf⟩ := own_any h.ofs
  clear h
  subst hf
  go_enter Try.func30, Try.ntmps30
  go_upto_region 3 with (go_at_call 31; refine Hl.out.mono ?_; rintro e w1 ⟨rfl, n, rfl⟩; have HA1 := Lib.hid (HA.out.drewN n); obtain ⟨c0, c1, c2⟩ := HA1.out.cells)
  clear c0 c1 c2 Hl HA
  have hBW : B ≤ (w.drewN n).heap.size := HB.out
  have hfr : Step w (w.drewN n) (Foot p u (.slice a2 ([] : List Nat).length cap2) us) (Foot p u (.slice a2 ([] : List Nat).length cap2) us) := (Step.refl _ _).drewN n
  have HBW := Lib.hid hBW
  have Hfr := Lib.hid hfr
  clear hBW hfr HB
  generalize w.drewN n = W at *
  obtain ⟨c0, c1, c2⟩ := HA1.out.cells
  go_upto_region 9 with (at_builtin; refine wpList_append_my _ rfl _ _ 74 rfl B 79 i0 (.pointer none) 1 8 Try.underlying74 Hi.out Hz0.out Hz1.out Hz2.out rfl (by decide) u us.length (ptrs us) (by rfl) ((HA1.out.own.alloc _).alloc _) ⟨W.heap.size + 1, 0, none⟩ 1 1 [.pointer (some ⟨W.heap.size, 0, none⟩)] (by rfl) (by rfl) (news2 W _ _ _) (by simp [Value.oneCell']) (by omega) (by unfold maxLen; omega) (by omega) (by have := HBW.out; simp; omega) (W.heap.size + 2) (by simp) ?_; intro g cap w3 hown3 hgrow hat hlt hsame; obtain ⟨hp3, hA3, hF3⟩ := Ar.took i_tys HA1.out HBW.out (.int .i64 x) w3 _ us.length rfl hown3 hgrow HR.out; have hK3 := Ar.took_foot HA1.out _ _ (.int .i64 x) w3 g (us.length + 1) cap hgrow hat; have HK3 := Lib.hid hK3; clear hK3; have e1 : w3.cell? ⟨p, 1, none⟩ = some u := (cell_of hp3 1).trans rfl; have f1 := free_of hp3 1; have HA3 := Lib.hid hA3; clear hown3 hgrow hat hlt hsame hp3 hA3 hF3 c0 c1 c2)
  have c1 := HA3.out.cells.2.1
  go_wp2
  go_ret2
  exact ⟨rfl, _, _, HA3.out, Hfr.out.trans HK3.out⟩

set_option maxRecDepth 100000 in
theorem i_retakeF {B : Nat} {w : World} {p room : Nat} {u f : Value} {us : List Cl} {gs : List Nat} {k0 : Nat} (h : Ar 76 78 79 B w p room u f us (gs ++ [k0 + 1])) (hfl : gs.length + 1 ≤ us.length) {b : Nat} {v : Value} {t : Bool}
    (hk : us[k0]? = some ((b, v, t) : Cl)) (x : Int) :
    Calls Try.prog 30 #[.pointer (some ⟨p, 0, none⟩), .int .i64 x] w fun e w' => e = .returned (.tuple #[.int .i64 ((k0 : Int) + 1), .bool true]) ∧ ∃ f', Ar 76 78 79 B w' p room u f' (us.set k0 (b, .int .i64 x, true)) gs ∧ Step w w' (Foot p u f us) (Foot p u f' (us.set k0 (b, .int .i64 x, true))) := by
  have hl := i_left h (by simpa using hfl)
  have hle := h.le
  have h3 := h.big
  have hne : (room : Int) - us.length + (gs ++ [k0 + 1]).length ≠ 0 := by simp; omega
  generalize (room : Int) - us.length + (gs ++ [k0 + 1]).length = left at *
  have hne' : (left == 0) = false := by simpa using hne
  have hlt := (List.getElem?_eq_some_iff.1 hk).1
  obtain ⟨g, cap, hf⟩ := own_slice h.ofs (by simp)
  obtain ⟨g1, cap1, hu⟩ := own_slice h.own (by omega)
  simp only [List.length_append, List.length_cons, List.length_nil, Nat.zero_add] at hf
  subst hf
  have hcapn : gs.length ≤ cap := by
    rcases h.ofs.2 with ⟨hv, _⟩ | ⟨_, _, _, hv, _, _, hn, hc, _⟩
    · cases hv
    · simp at hv hn hc
      omega
  have Hl := Lib.hid hl
  have HA := Lib.hid h
  have Hu := Lib.hid hu
  have Hk := Lib.hid hk
  have hk1 : (k0 : Int) ≤ 9223372036854775806 := by omega
  clear hl h hu hk hne
  go_enter Try.func30, Try.ntmps30
  go_upto_region 3 with (go_at_call 31; refine Hl.out.mono ?_; rintro e w1 ⟨rfl, n, rfl⟩; have HA1 := Lib.hid (HA.out.drewN n))
  have hfr : Step w (w.drewN n) (Foot p u (.slice (some ⟨g, 0, none⟩) (gs.length + 1) cap) us) (Foot p u (.slice (some ⟨g, 0, none⟩) (gs.length + 1) cap) us) := (Step.refl _ _).drewN n
  have Hfr := Lib.hid hfr
  clear hfr HA Hl
  generalize w.drewN n = W at *
  obtain ⟨c0, c1, c2⟩ := HA1.out.cells
  have hlast := (Ar.pop i_tys HA1.out).2.2
  have hlen1 : (0 : Int) < (gs.length : Int) + 1 := by omega
  have hlen1d : decide ((0 : Int) < (gs.length : Int) + 1) = true := decide_eq_true hlen1
  have hsub : (gs.length : Int) + 1 - 1 = gs.length := by omega
  have m0 : IntKind.i64.wrap ((gs.length : Int) + 1 - 1) = gs.length := by rw [hsub]; exact IntWalk.i64_in _ (by omega)
  have g0 : (0 : Int) ≤ (gs.length : Int) := by omega
  have g01 : (gs.length : Int) < (gs.length : Int) + 1 := by omega
  go_wp2
  go_quiet (fail)
  have HA2 := Lib.hid (HA1.out.drewN nq)
  have Hfr2 : Hid (Step w (W.drewN nq) (Foot p u (.slice (some ⟨g, 0, none⟩) (gs.length + 1) cap) us) (Foot p u (.slice (some ⟨g, 0, none⟩) (gs.length + 1) cap) us)) := Hfr.out.drewN nq
  clear HA1 Hfr c0 c1 c2 hlast
  generalize W.drewN nq = W2 at *
  obtain ⟨c0, c1, c2⟩ := HA2.out.cells
  have f2 := free_of HA2.out.hp 2
  go_upto_region 5 with fail
  go_region
  go_upto_region 6 with fail
  have hpop := Ar.pop i_tys HA2.out
  have HA3 := Lib.hid hpop.1.drew
  have Hfr3 : Hid (Step w (W2.setCell ⟨p, 2, none⟩ (.slice (some ⟨g, 0, none⟩) gs.length cap)).drew (Foot p u (.slice (some ⟨g, 0, none⟩) (gs.length + 1) cap) us) (Foot p u (.slice (some ⟨g, 0, none⟩) gs.length cap) us)) := (Hfr2.out.trans (Ar.pop_foot W2 g gs.length (gs.length + 1) cap)).drewN 1
  clear hpop HA2 Hfr2 c0 c1 c2 f2
  generalize (W2.setCell ⟨p, 2, none⟩ (.slice (some ⟨g, 0, none⟩) gs.length cap)).drew = W3 at *
  have c1 : W3.cell? ⟨p, 1, none⟩ = some (.slice (some ⟨g1, 0, none⟩) us.length cap1) := by rw [HA3.out.cells.2.1, Hu.out]
  have hptr := HA3.out.ptr Hu.out Hk.out
  have hcb := (HA3.out.cell k0 b v t Hk.out).1
  have b0 : W3.cell? ⟨b, 0, none⟩ = some v := (cell_of hcb 0).trans rfl
  have b1 : W3.cell? ⟨b, 1, none⟩ = some (.bool t) := (cell_of hcb 1).trans rfl
  have fb0 := free_of hcb 0
  have fb1 := free_of hcb 1
  have hk0 : (0 : Int) ≤ (k0 : Int) := by omega
  have hk2 : (k0 : Int) < (us.length : Int) := by omega
  have hput := Ar.put i_tys HA3.out Hk.out (.int .i64 x) true
  have Hput := Lib.hid hput
  have hpf := Ar.put_foot (p := p) (u := u) (f := .slice (some ⟨g, 0, none⟩) gs.length cap) W3 Hk.out (.int .i64 x) true
  have Hpf := Lib.hid hpf
  clear hput hcb hpf
  go_wp2
  go_ret2
  exact ⟨rfl, _, Hput.out.1, Hfr3.out.trans Hpf.out⟩

set_option maxRecDepth 100000 in
theorem i_freeF {B : Nat} {w : World} {p room : Nat} {u f : Value} {us : List Cl} {fs : List Nat} (h : Ar 76 78 79 B w p room u f us fs) (hB : B ≤ w.heap.size) (hsm : fs.length ≤ 100000) {k0 b : Nat} {v : Value}
    (hk : us[k0]? = some ((b, v, true) : Cl)) :
    Calls Try.prog 27 #[.pointer (some ⟨p, 0, none⟩), .int .i64 ((k0 : Int) + 1)] w fun e w' => e = .returned (.bool true) ∧ ∃ f', Ar 76 78 79 B w' p room u f' (us.set k0 (b, .int .i64 0, false)) (fs ++ [k0 + 1]) ∧ Step w w' (Foot p u f us) (Foot p u f' (us.set k0 (b, .int .i64 0, false))) := by
  obtain ⟨i0, hi, hz0, hz1, hz2⟩ := info_parts i_info3
  have hat := i_at_in h k0 b v true hk
  simp only [if_true] at hat
  have hle := h.le
  have h3 := h.big
  have hlt := (List.getElem?_eq_some_iff.1 hk).1
  obtain ⟨g1, cap1, hu⟩ := own_slice h.own (by omega)
  have c1 : w.cell? ⟨p, 1, none⟩ = some (.slice (some ⟨g1, 0, none⟩) us.length cap1) := by rw [h.cells.2.1, hu]
  have hptr := h.ptr hu hk
  have hcb := (h.cell k0 b v true hk).1
  have b0 : w.cell? ⟨b, 0, none⟩ = some v := (cell_of hcb 0).trans rfl
  have b1 : w.cell? ⟨b, 1, none⟩ = some (.bool true) := (cell_of hcb 1).trans rfl
  have fb0 := free_of hcb 0
  have fb1 := free_of hcb 1
  have hk0 : (0 : Int) ≤ (k0 : Int) := by omega
  have hk2 : (k0 : Int) < (us.length : Int) := by omega
  have hk1 : (k0 : Int) ≤ 9223372036854775806 := by omega
  have hput := Ar.put i_tys h hk (.int .i64 0) false
  have Hput := Lib.hid hput
  have Hk := Lib.hid hk
  have Hat := Lib.hid hat
  have Hi := Lib.hid hi
  have Hz0 := Lib.hid hz0
  have Hz1 := Lib.hid hz1
  have Hz2 := Lib.hid hz2
  have HB := Lib.hid hB
  have Hsm := Lib.hid hsm
  clear hput hcb hat hi hz0 hz1 hz2 h hu hk hB hsm
  go_enter Try.func27, Try.ntmps27
  go_upto_region 4 with (go_at_call 28; refine Hat.out.mono ?_; rintro e w1 ⟨rfl, hw⟩; rw [hw]; clear hw)
  have HA2 := Lib.hid Hput.out.1
  have HF2 := Lib.hid Hput.out.2
  have hpf := Ar.put_foot (p := p) (u := u) (f := f) w Hk.out (.int .i64 0) false
  have Hpf := Lib.hid hpf
  clear hpf
  have hBW : B ≤ ((w.setCell ⟨b, 0, none⟩ (.int .i64 0)).setCell ⟨b, 1, none⟩ (.bool false)).heap.size := Nat.le_trans HB.out HF2.out.size
  have HBW := Lib.hid hBW
  clear hBW Hput HB c1 hptr b0 b1 fb0 fb1 Hat
  generalize (w.setCell ⟨b, 0, none⟩ (.int .i64 0)).setCell ⟨b, 1, none⟩ (.bool false) = W at *
  obtain ⟨c0, c1, c2⟩ := HA2.out.cells
  have hs1 : fs.length + 1 ≤ maxLen := by have := Hsm.out; unfold maxLen; omega
  have hs2 : (fs.length + 1) * 8 ≤ 140737488355328 := by have := Hsm.out; omega
  go_upto_region 5 with (at_builtin; refine wpList_append_my _ rfl _ _ 57 rfl B 3 i0 (.int .i64 0) 1 8 Try.underlying57 Hi.out Hz0.out Hz1.out Hz2.out rfl (by decide) f fs.length (nums fs) (by rfl) (HA2.out.ofs.alloc _) ⟨W.heap.size, 0, none⟩ 1 1 [.int .i64 ((k0 : Int) + 1)] (by rfl) (by rfl) (World.news_of_block (cs := #[.int .i64 ((k0 : Int) + 1)]) (t := 3) (fr := (0, 0)) (heap_alloc_new W _)) (by simp [Value.oneCell']) (by omega) hs1 hs2 (by have := HBW.out; simp; omega) (W.heap.size + 1) (by simp) ?_; intro g cap w3 hown3 hgrow hat hlt hsame; obtain ⟨hp3, hA3, hF3⟩ := Ar.freed i_tys HA2.out (k0 + 1) w3 _ fs.length rfl hown3 hgrow; have hK3 := Ar.freed_foot (p := p) (u := u) (us := us.set k0 (b, .int .i64 0, false)) W w3 _ g (fs.length + 1) cap hgrow hat; have HK3 := Lib.hid hK3; clear hK3; have e2 : w3.cell? ⟨p, 2, none⟩ = some f := (cell_of hp3 2).trans rfl; have f2 := free_of hp3 2; have HA3 := Lib.hid hA3; clear hown3 hgrow hat hlt hsame hp3 hA3 hF3 c0 c1 c2)
  go_wp2
  go_ret
  exact ⟨rfl, _, HA3.out, Hpf.out.trans HK3.out⟩
end Go.Proofs.Ytfmoagdhajfngaa
