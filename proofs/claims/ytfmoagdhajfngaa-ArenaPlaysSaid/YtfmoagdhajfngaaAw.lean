/- Walks of layer 17 (arena). -/
import Derived.Test.YtfmoagdhajfngaaProg
import Derived.Test.YtfmoagdhajfngaaAr
import Derived.WalkKit
import Derived.Deep.QuietTactic
import Derived.BigQuiet
import Derived.KernelRfl
import Derived.Lib.Hide
import Derived.WalkSpells
import Derived.Deep.DeepCutAuto
import Derived.OwnWalk
namespace Go.Proofs.Ytfmoagdhajfngaa
open Go.RowKit Go.My

theorem i_tys : Tys 76 78 79 := ⟨by decide, by decide, by decide, by decide, by decide, by decide⟩
theorem i_info : (Try.prog.info? 79).map (fun i => (i.zero, i.size, i.bytes)) = some (some (.pointer none), 1, 8) := by kernel_rfl

set_option maxRecDepth 100000 in
theorem i_new (B : Nat) (n : Nat) (hn : n ≤ 9223372036854775807) (w : World) (hB : B ≤ w.heap.size) :
    Calls Try.prog 26 #[.int .i64 (n : Int)] w fun e w' => e = .returned (.pointer (some ⟨w.heap.size, 0, none⟩)) ∧ Ar 76 78 79 B w' w.heap.size n (.slice none 0 0) (.slice none 0 0) [] [] ∧ Fr (fun k => B ≤ k) w w' := by
  have hm : max (n : Int) 0 = n := by omega
  have hF := Ar.fresh (tA := 76) (tC := 78) (tP := 79) (B := B) w n hn hB
  have HF := Lib.hid hF
  have HN := Lib.hid hn
  clear hF hn hB
  go_enter Try.func26, Try.ntmps26
  by_cases h0 : (n : Int) < 0
  · omega
  · go_wp2
    go_ret
    exact ⟨rfl, HF.out, (Fr.refl _ _).alloc _⟩

set_option maxRecDepth 100000 in
theorem i_left {B : Nat} {w : World} {p room : Nat} {u f : Value} {us : List Cl} {fs : List Nat} (h : Ar 76 78 79 B w p room u f us fs) (hfl : fs.length ≤ us.length) :
    Calls Try.prog 31 #[.pointer (some ⟨p, 0, none⟩)] w fun e w' => e = .returned (.int .i64 ((room : Int) - us.length + fs.length)) ∧ ∃ n, w' = w.drewN n := by
  obtain ⟨c0, c1, c2⟩ := h.cells
  obtain ⟨a1, cap1, hu⟩ := own_any h.own
  obtain ⟨a2, cap2, hf⟩ := own_any h.ofs
  have h1 := h.le
  have h2 := hfl
  have h3 := h.big
  subst hu
  subst hf
  generalize us.length = n1 at *
  generalize fs.length = n2 at *
  have m1 : IntKind.i64.wrap ((room : Int) - (n1 : Int)) = (room : Int) - n1 := IntWalk.i64_in _ (by omega)
  have m2 : IntKind.i64.wrap ((room : Int) - (n1 : Int) + (n2 : Int)) = (room : Int) - n1 + n2 := IntWalk.i64_in _ (by omega)
  clear h h1 h2 h3 hfl
  go_enter Try.func31, Try.ntmps31
  go_wp2
  go_quiet (fail)
  go_wp2
  go_ret
  exact ⟨rfl, _, rfl⟩

set_option maxRecDepth 100000 in
theorem i_at_out {B : Nat} {w : World} {p room : Nat} {u f : Value} {us : List Cl} {fs : List Nat} (h : Ar 76 78 79 B w p room u f us fs) (i : Int) (hi : i < 1 ∨ us.length < i) :
    Calls Try.prog 28 #[.pointer (some ⟨p, 0, none⟩), .int .i64 i] w fun e w' => e = .returned (.pointer none) ∧ w' = w := by
  obtain ⟨c0, c1, c2⟩ := h.cells
  obtain ⟨a1, cap1, hu⟩ := own_any h.own
  subst hu
  generalize us.length = n1 at *
  clear h
  by_cases h1 : i < 1
  · have h1' : decide (i < 1) = true := by simpa using h1
    clear hi
    go_enter Try.func28, Try.ntmps28
    go_wp2
    go_ret
    exact ⟨rfl, rfl⟩
  · have h2 : (n1 : Int) < i := by omega
    have h1' : decide (i < 1) = false := by simpa using h1
    have h2' : decide ((n1 : Int) < i) = true := by simpa using h2
    clear hi
    go_enter Try.func28, Try.ntmps28
    go_wp2
    go_ret
    exact ⟨rfl, rfl⟩

set_option maxRecDepth 100000 in
theorem i_at_in {B : Nat} {w : World} {p room : Nat} {u f : Value} {us : List Cl} {fs : List Nat} (h : Ar 76 78 79 B w p room u f us fs) (i b : Nat) (v : Value) (t : Bool) (hi : us[i]? = some ((b, v, t) : Cl)) :
    Calls Try.prog 28 #[.pointer (some ⟨p, 0, none⟩), .int .i64 ((i : Int) + 1)] w fun e w' => e = .returned (if t then .pointer (some ⟨b, 0, none⟩) else .pointer none) ∧ w' = w := by
  obtain ⟨c0, c1, c2⟩ := h.cells
  have hlt := (List.getElem?_eq_some_iff.1 hi).1
  obtain ⟨g, cap1, hu⟩ := own_slice h.own (by omega)
  have hptr := h.ptr hu hi
  have hcell := (h.cell i b v t hi).1
  have ht : w.cell? ⟨b, 1, none⟩ = some (.bool t) := by rw [cell_of hcell]; rfl
  have h3 := h.big
  have h4 := h.le
  subst hu
  generalize us.length = n1 at *
  have h1' : decide ((i : Int) + 1 < 1) = false := by simp; omega
  have h2' : decide ((n1 : Int) < (i : Int) + 1) = false := by simp; omega
  have hs : (i : Int) + 1 - 1 = i := by omega
  have hi0 : (0 : Int) ≤ (i : Int) := by omega
  have hi1 : (i : Int) < (n1 : Int) := by omega
  have hi63 : (i : Int) ≤ 9223372036854775807 := by omega
  clear h hi hcell h4
  cases t with
  | true =>
    go_enter Try.func28, Try.ntmps28
    go_wp2
    go_ret
    exact ⟨by first | rfl | simp, rfl⟩
  | false =>
    go_enter Try.func28, Try.ntmps28
    go_wp2
    go_ret
    exact ⟨by first | rfl | simp, rfl⟩

set_option maxRecDepth 100000 in
theorem i_full {B : Nat} {w : World} {p room : Nat} {u f : Value} {us : List Cl} {fs : List Nat} (h : Ar 76 78 79 B w p room u f us fs) (hfl : fs.length ≤ us.length) (hf : (room : Int) - us.length + fs.length = 0) (x : Int) :
    Calls Try.prog 30 #[.pointer (some ⟨p, 0, none⟩), (.int .i64 x)] w fun e w' => e = .returned (.tuple #[.int .i64 0, .bool false]) ∧ ∃ n, w' = w.drewN n := by
  have hl := i_left h hfl
  rw [hf] at hl
  have Hl := Lib.hid hl
  clear hl h hf hfl
  go_enter Try.func30, Try.ntmps30
  go_wp2_with (go_at_call 31; refine Hl.out.mono ?_; rintro e w' ⟨rfl, hw⟩; have Hw := Lib.hid hw; clear hw)
  go_ret2
  exact ⟨rfl, Hw.out⟩

set_option maxRecDepth 100000 in
theorem i_take {B : Nat} {w : World} {p room : Nat} {u f : Value} {us : List Cl} (h : Ar 76 78 79 B w p room u f us []) (hroom : us.length < room) (hsm : us.length ≤ 100000) (hB : B ≤ w.heap.size) (x : Int) :
    Calls Try.prog 30 #[.pointer (some ⟨p, 0, none⟩), (.int .i64 x)] w fun e w' => e = .returned (.tuple #[.int .i64 ((us.length : Int) + 1), .bool true]) ∧ ∃ u' b, Ar 76 78 79 B w' p room u' f (us ++ [(b, (.int .i64 x), true)]) [] ∧ Fr (fun k => B ≤ k) w w' ∧ Keeps 76 79 w w' := by
  obtain ⟨i0, hi, hz0, hz1, hz2⟩ := info_parts i_info
  have hl := i_left h (by simp)
  have h3 := h.big
  have hne : (room : Int) - us.length + ([] : List Nat).length ≠ 0 := by simp; omega
  generalize (room : Int) - us.length + ([] : List Nat).length = left at *
  have hne' : (left == 0) = false := by simpa using hne
  have Hl := Lib.hid hl
  have HA := Lib.hid h
  have Hi := Lib.hid hi
  have Hz0 := Lib.hid hz0
  have Hz1 := Lib.hid hz1
  have Hz2 := Lib.hid hz2
  have HB := Lib.hid hB
  have HR := Lib.hid hroom
  clear hl hi hz0 hz1 hz2 hne hB hroom
  obtain ⟨a2, cap2, hf⟩ := own_any h.ofs
  clear h
  subst hf
  go_enter Try.func30, Try.ntmps30
  go_upto_region 3 with (go_at_call 31; refine Hl.out.mono ?_; rintro e w1 ⟨rfl, n, rfl⟩; have HA1 := Lib.hid (HA.out.drewN n); obtain ⟨c0, c1, c2⟩ := HA1.out.cells)
  clear c0 c1 c2 Hl HA
  have hBW : B ≤ (w.drewN n).heap.size := HB.out
  have hfr : Fr (fun k => B ≤ k) w (w.drewN n) := (Fr.refl _ _).drewN n
  have HBW := Lib.hid hBW
  have Hfr := Lib.hid hfr
  clear hBW hfr HB
  have HW : Hid (∀ (k : Nat) (cs : Array Value) (t : TypeId) (fr : Nat × Nat), w.heap[k]? = some (.cells cs t fr) → (w.drewN n).heap[k]? = some (.cells cs t fr)) := fun k cs t fr h => h
  generalize w.drewN n = W at *
  obtain ⟨c0, c1, c2⟩ := HA1.out.cells
  go_upto_region 9 with (at_builtin; refine wpList_append_my _ rfl _ _ 74 rfl B 79 i0 (.pointer none) 1 8 Try.underlying74 Hi.out Hz0.out Hz1.out Hz2.out rfl (by decide) u us.length (ptrs us) (by rfl) ((HA1.out.own.alloc _).alloc _) ⟨W.heap.size + 1, 0, none⟩ 1 1 [.pointer (some ⟨W.heap.size, 0, none⟩)] (by rfl) (by rfl) (news2 W _ _ _) (by simp [Value.oneCell']) (by omega) (by unfold maxLen; omega) (by omega) (by have := HBW.out; simp; omega) (W.heap.size + 2) (by simp) ?_; intro g cap w3 hown3 hgrow hat hlt hsame; obtain ⟨hp3, hA3, hF3⟩ := Ar.took i_tys HA1.out HBW.out (.int .i64 x) w3 _ us.length rfl hown3 hgrow HR.out; have hK3 := Ar.took_keep HA1.out _ _ w3 (.slice (some ⟨g, 0, none⟩) (us.length + 1) cap) hgrow hp3; have HK3 := Lib.hid hK3; clear hK3; have e1 : w3.cell? ⟨p, 1, none⟩ = some u := (cell_of hp3 1).trans rfl; have f1 := free_of hp3 1; have HA3 := Lib.hid hA3; have HF3 := Lib.hid hF3; clear hown3 hgrow hat hlt hsame hp3 hA3 hF3 c0 c1 c2)
  have c1 := HA3.out.cells.2.1
  go_wp2
  go_ret2
  exact ⟨rfl, _, _, HA3.out, Hfr.out.trans HF3.out (fun i hi => .inl hi), fun k cs t fr hk => HK3.out k cs t fr (HW.out k cs t fr hk)⟩


theorem s_tys : Tys 70 72 73 := ⟨by decide, by decide, by decide, by decide, by decide, by decide⟩
theorem s_info : (Try.prog.info? 73).map (fun i => (i.zero, i.size, i.bytes)) = some (some (.pointer none), 1, 8) := by kernel_rfl

set_option maxRecDepth 100000 in
theorem s_new (B : Nat) (n : Nat) (hn : n ≤ 9223372036854775807) (w : World) (hB : B ≤ w.heap.size) :
    Calls Try.prog 22 #[.int .i64 (n : Int)] w fun e w' => e = .returned (.pointer (some ⟨w.heap.size, 0, none⟩)) ∧ Ar 70 72 73 B w' w.heap.size n (.slice none 0 0) (.slice none 0 0) [] [] ∧ Fr (fun k => B ≤ k) w w' := by
  have hm : max (n : Int) 0 = n := by omega
  have hF := Ar.fresh (tA := 70) (tC := 72) (tP := 73) (B := B) w n hn hB
  have HF := Lib.hid hF
  have HN := Lib.hid hn
  clear hF hn hB
  go_enter Try.func22, Try.ntmps22
  by_cases h0 : (n : Int) < 0
  · omega
  · go_wp2
    go_ret
    exact ⟨rfl, HF.out, (Fr.refl _ _).alloc _⟩

set_option maxRecDepth 100000 in
theorem s_left {B : Nat} {w : World} {p room : Nat} {u f : Value} {us : List Cl} {fs : List Nat} (h : Ar 70 72 73 B w p room u f us fs) (hfl : fs.length ≤ us.length) :
    Calls Try.prog 24 #[.pointer (some ⟨p, 0, none⟩)] w fun e w' => e = .returned (.int .i64 ((room : Int) - us.length + fs.length)) ∧ ∃ n, w' = w.drewN n := by
  obtain ⟨c0, c1, c2⟩ := h.cells
  obtain ⟨a1, cap1, hu⟩ := own_any h.own
  obtain ⟨a2, cap2, hf⟩ := own_any h.ofs
  have h1 := h.le
  have h2 := hfl
  have h3 := h.big
  subst hu
  subst hf
  generalize us.length = n1 at *
  generalize fs.length = n2 at *
  have m1 : IntKind.i64.wrap ((room : Int) - (n1 : Int)) = (room : Int) - n1 := IntWalk.i64_in _ (by omega)
  have m2 : IntKind.i64.wrap ((room : Int) - (n1 : Int) + (n2 : Int)) = (room : Int) - n1 + n2 := IntWalk.i64_in _ (by omega)
  clear h h1 h2 h3 hfl
  go_enter Try.func24, Try.ntmps24
  go_wp2
  go_quiet (fail)
  go_wp2
  go_ret
  exact ⟨rfl, _, rfl⟩

set_option maxRecDepth 100000 in
theorem s_at_out {B : Nat} {w : World} {p room : Nat} {u f : Value} {us : List Cl} {fs : List Nat} (h : Ar 70 72 73 B w p room u f us fs) (i : Int) (hi : i < 1 ∨ us.length < i) :
    Calls Try.prog 25 #[.pointer (some ⟨p, 0, none⟩), .int .i64 i] w fun e w' => e = .returned (.pointer none) ∧ w' = w := by
  obtain ⟨c0, c1, c2⟩ := h.cells
  obtain ⟨a1, cap1, hu⟩ := own_any h.own
  subst hu
  generalize us.length = n1 at *
  clear h
  by_cases h1 : i < 1
  · have h1' : decide (i < 1) = true := by simpa using h1
    clear hi
    go_enter Try.func25, Try.ntmps25
    go_wp2
    go_ret
    exact ⟨rfl, rfl⟩
  · have h2 : (n1 : Int) < i := by omega
    have h1' : decide (i < 1) = false := by simpa using h1
    have h2' : decide ((n1 : Int) < i) = true := by simpa using h2
    clear hi
    go_enter Try.func25, Try.ntmps25
    go_wp2
    go_ret
    exact ⟨rfl, rfl⟩

set_option maxRecDepth 100000 in
theorem s_at_in {B : Nat} {w : World} {p room : Nat} {u f : Value} {us : List Cl} {fs : List Nat} (h : Ar 70 72 73 B w p room u f us fs) (i b : Nat) (v : Value) (t : Bool) (hi : us[i]? = some ((b, v, t) : Cl)) :
    Calls Try.prog 25 #[.pointer (some ⟨p, 0, none⟩), .int .i64 ((i : Int) + 1)] w fun e w' => e = .returned (if t then .pointer (some ⟨b, 0, none⟩) else .pointer none) ∧ w' = w := by
  obtain ⟨c0, c1, c2⟩ := h.cells
  have hlt := (List.getElem?_eq_some_iff.1 hi).1
  obtain ⟨g, cap1, hu⟩ := own_slice h.own (by omega)
  have hptr := h.ptr hu hi
  have hcell := (h.cell i b v t hi).1
  have ht : w.cell? ⟨b, 1, none⟩ = some (.bool t) := by rw [cell_of hcell]; rfl
  have h3 := h.big
  have h4 := h.le
  subst hu
  generalize us.length = n1 at *
  have h1' : decide ((i : Int) + 1 < 1) = false := by simp; omega
  have h2' : decide ((n1 : Int) < (i : Int) + 1) = false := by simp; omega
  have hs : (i : Int) + 1 - 1 = i := by omega
  have hi0 : (0 : Int) ≤ (i : Int) := by omega
  have hi1 : (i : Int) < (n1 : Int) := by omega
  have hi63 : (i : Int) ≤ 9223372036854775807 := by omega
  clear h hi hcell h4
  cases t with
  | true =>
    go_enter Try.func25, Try.ntmps25
    go_wp2
    go_ret
    exact ⟨by first | rfl | simp, rfl⟩
  | false =>
    go_enter Try.func25, Try.ntmps25
    go_wp2
    go_ret
    exact ⟨by first | rfl | simp, rfl⟩

set_option maxRecDepth 100000 in
theorem s_full {B : Nat} {w : World} {p room : Nat} {u f : Value} {us : List Cl} {fs : List Nat} (h : Ar 70 72 73 B w p room u f us fs) (hfl : fs.length ≤ us.length) (hf : (room : Int) - us.length + fs.length = 0) (vo : Option Addr) (vl vc : Nat) :
    Calls Try.prog 23 #[.pointer (some ⟨p, 0, none⟩), (.slice vo vl vc)] w fun e w' => e = .returned (.tuple #[.int .i64 0, .bool false]) ∧ ∃ n, w' = w.drewN n := by
  have hl := s_left h hfl
  rw [hf] at hl
  have Hl := Lib.hid hl
  clear hl h hf hfl
  go_enter Try.func23, Try.ntmps23
  go_wp2_with (go_at_call 24; refine Hl.out.mono ?_; rintro e w' ⟨rfl, hw⟩; have Hw := Lib.hid hw; clear hw)
  go_ret2
  exact ⟨rfl, Hw.out⟩

set_option maxRecDepth 100000 in
theorem s_take {B : Nat} {w : World} {p room : Nat} {u f : Value} {us : List Cl} (h : Ar 70 72 73 B w p room u f us []) (hroom : us.length < room) (hsm : us.length ≤ 100000) (hB : B ≤ w.heap.size) (vo : Option Addr) (vl vc : Nat) :
    Calls Try.prog 23 #[.pointer (some ⟨p, 0, none⟩), (.slice vo vl vc)] w fun e w' => e = .returned (.tuple #[.int .i64 ((us.length : Int) + 1), .bool true]) ∧ ∃ u' b, Ar 70 72 73 B w' p room u' f (us ++ [(b, (.slice vo vl vc), true)]) [] ∧ Fr (fun k => B ≤ k) w w' ∧ Keeps 70 73 w w' := by
  obtain ⟨i0, hi, hz0, hz1, hz2⟩ := info_parts s_info
  have hl := s_left h (by simp)
  have h3 := h.big
  have hne : (room : Int) - us.length + ([] : List Nat).length ≠ 0 := by simp; omega
  generalize (room : Int) - us.length + ([] : List Nat).length = left at *
  have hne' : (left == 0) = false := by simpa using hne
  have Hl := Lib.hid hl
  have HA := Lib.hid h
  have Hi := Lib.hid hi
  have Hz0 := Lib.hid hz0
  have Hz1 := Lib.hid hz1
  have Hz2 := Lib.hid hz2
  have HB := Lib.hid hB
  have HR := Lib.hid hroom
  clear hl hi hz0 hz1 hz2 hne hB hroom
  obtain ⟨a2, cap2, hf⟩ := own_any h.ofs
  clear h
  subst hf
  go_enter Try.func23, Try.ntmps23
  go_upto_region 3 with (go_at_call 24; refine Hl.out.mono ?_; rintro e w1 ⟨rfl, n, rfl⟩; have HA1 := Lib.hid (HA.out.drewN n); obtain ⟨c0, c1, c2⟩ := HA1.out.cells)
  clear c0 c1 c2 Hl HA
  have hBW : B ≤ (w.drewN n).heap.size := HB.out
  have hfr : Fr (fun k => B ≤ k) w (w.drewN n) := (Fr.refl _ _).drewN n
  have HBW := Lib.hid hBW
  have Hfr := Lib.hid hfr
  clear hBW hfr HB
  have HW : Hid (∀ (k : Nat) (cs : Array Value) (t : TypeId) (fr : Nat × Nat), w.heap[k]? = some (.cells cs t fr) → (w.drewN n).heap[k]? = some (.cells cs t fr)) := fun k cs t fr h => h
  generalize w.drewN n = W at *
  obtain ⟨c0, c1, c2⟩ := HA1.out.cells
  go_upto_region 9 with (at_builtin; refine wpList_append_my _ rfl _ _ 68 rfl B 73 i0 (.pointer none) 1 8 Try.underlying68 Hi.out Hz0.out Hz1.out Hz2.out rfl (by decide) u us.length (ptrs us) (by rfl) ((HA1.out.own.alloc _).alloc _) ⟨W.heap.size + 1, 0, none⟩ 1 1 [.pointer (some ⟨W.heap.size, 0, none⟩)] (by rfl) (by rfl) (news2 W _ _ _) (by simp [Value.oneCell']) (by omega) (by unfold maxLen; omega) (by omega) (by have := HBW.out; simp; omega) (W.heap.size + 2) (by simp) ?_; intro g cap w3 hown3 hgrow hat hlt hsame; obtain ⟨hp3, hA3, hF3⟩ := Ar.took s_tys HA1.out HBW.out (.slice vo vl vc) w3 _ us.length rfl hown3 hgrow HR.out; have hK3 := Ar.took_keep HA1.out _ _ w3 (.slice (some ⟨g, 0, none⟩) (us.length + 1) cap) hgrow hp3; have HK3 := Lib.hid hK3; clear hK3; have e1 : w3.cell? ⟨p, 1, none⟩ = some u := (cell_of hp3 1).trans rfl; have f1 := free_of hp3 1; have HA3 := Lib.hid hA3; have HF3 := Lib.hid hF3; clear hown3 hgrow hat hlt hsame hp3 hA3 hF3 c0 c1 c2)
  have c1 := HA3.out.cells.2.1
  go_wp2
  go_ret2
  exact ⟨rfl, _, _, HA3.out, Hfr.out.trans HF3.out (fun i hi => .inl hi), fun k cs t fr hk => HK3.out k cs t fr (HW.out k cs t fr hk)⟩

end Go.Proofs.Ytfmoagdhajfngaa
