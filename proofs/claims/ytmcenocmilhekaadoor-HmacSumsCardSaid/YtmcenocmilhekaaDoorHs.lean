/- HmacSums: whether two texts are the same; what the law asks first; the walk of the law. -/
import Derived.Test.YtmcenocmilhekaaDoorRh
import Derived.Deep.QuietTactic
import Derived.Deep.RegionHeld3
namespace Go.Proofs.YtmcenocmilhekaaDoor
set_option linter.unusedVariables false
open Go.RowKit Go.My Go.Sha

def orX (a b : List UInt8) : Nat → UInt8
  | 0 => 0
  | i + 1 => orX a b i ||| (keyB a i ^^^ keyB b i)
theorem orX_zero (a b : List UInt8) (n : Nat) : orX a b n = 0 ↔ ∀ i, i < n → keyB a i = keyB b i := by
  induction n with
  | zero => simp [orX]
  | succ n ih =>
    have key : ∀ x y : UInt8, x ||| y = 0 ↔ x = 0 ∧ y = 0 := by
      intro x y
      constructor
      · intro h
        have h2 : x.toNat ||| y.toNat = 0 := by have := congrArg UInt8.toNat h; simpa using this
        have := Nat.or_eq_zero_iff.1 h2
        exact ⟨UInt8.toNat_inj.1 (by simpa using this.1), UInt8.toNat_inj.1 (by simpa using this.2)⟩
      · rintro ⟨rfl, rfl⟩; rfl
    have kx : ∀ x y : UInt8, x ^^^ y = 0 ↔ x = y := fun x y => UInt8.xor_eq_zero_iff
    simp only [orX, key, ih, kx]
    constructor
    · rintro ⟨h1, h2⟩ i hi
      rcases Nat.lt_or_ge i n with h | h
      · exact h1 i h
      · obtain rfl : i = n := by omega
        exact h2
    · intro h
      exact ⟨fun i hi => h i (by omega), h n (by omega)⟩
theorem same_iff (a b : ByteArray) (h : a.size = b.size) : orX a.data.toList b.data.toList a.size = 0 ↔ a = b := by
  rw [orX_zero]
  constructor
  · intro hall
    have e : a.data.toList = b.data.toList := by
      apply List.ext_getElem
      · have h1 : a.data.toList.length = a.size := by simp
        have h2 : b.data.toList.length = b.size := by simp
        omega
      · intro i h1 h2
        have hi : i < a.size := by simpa using h1
        have := hall i hi
        simp only [keyB, List.getD, List.getElem?_eq_getElem h1, List.getElem?_eq_getElem h2, Option.getD_some] at this
        exact this
    cases a with
    | mk x =>
      cases b with
      | mk y => exact congrArg ByteArray.mk (Array.toList_inj.1 e)
  · rintro rfl i _; rfl
theorem or8 (a b : UInt8) : Go.bits .or .u8 (a.toNat : Int) (b.toNat : Int) = ((a ||| b).toNat : Int) := by
  have h := (bits_nat .u8 8 (by decide) (fun n h0 h1 => by rw [IntKind.wrap_u8]; omega) a.toNat b.toNat a.toNat_lt b.toNat_lt).2
  rw [h, UInt8.toNat_or]

set_option maxHeartbeats 2000000 in
set_option maxRecDepth 100000 in
theorem same_is (a b : ByteArray) (ha : a.size ≤ 1000000) (hb : b.size ≤ 1000000) (w : World) :
    Calls Tryd.prog 14 #[.string a, .string b] w fun e w' => e = .returned (.bool (decide (a = b))) ∧ Fr (fun _ => False) w w' := by
  by_cases hsz : a.size = b.size
  · have hsame := same_iff a b hsz
    have hszI : (a.size : Int) = (b.size : Int) := by omega
    obtain ⟨n, hn⟩ : ∃ n, a.size = n := ⟨_, rfl⟩
    have hbn : b.size = n := by omega
    obtain ⟨la, hla⟩ : ∃ la, a.data.toList = la := ⟨_, rfl⟩
    obtain ⟨lb, hlb⟩ : ∃ lb, b.data.toList = lb := ⟨_, rfl⟩
    have hxa : ∀ i (h : i < a.size), a[i] = keyB la i := fun i h => by
      rw [← hla]
      have h2 : i < a.data.toList.length := by simpa using h
      simp only [keyB, List.getD, List.getElem?_eq_getElem h2, Option.getD_some]
      rfl
    have hxb : ∀ i (h : i < b.size), b[i] = keyB lb i := fun i h => by
      rw [← hlb]
      have h2 : i < b.data.toList.length := by simpa using h
      simp only [keyB, List.getD, List.getElem?_eq_getElem h2, Option.getD_some]
      rfl
    rw [hla, hlb, hn] at hsame
    have Hsame := Lib.hid hsame
    have HXa := Lib.hid hxa
    have HXb := Lib.hid hxb
    clear hsame hla hlb hxa hxb hszI hsz
    go_enter Tryd.func14, Tryd.ntmps14
    go_wp2
    go_loopw [5, 6, 14] (fun v5 _ v14 wr => ∃ (i : Nat) (x : UInt8), i ≤ n ∧ v14 = .int .i64 (i : Int) ∧ v5 = .int .u8 (x.toNat : Int) ∧ Hid (x = orX la lb i) ∧ Hid (Fr (fun _ => False) w wr)) (fun _ _ v14 _ => n - (intOf v14).toNat)
    case atStart => exact ⟨0, 0, by omega, rfl, rfl, rfl, Fr.refl _ _⟩
    case round =>
      obtain ⟨i, x, hi, rfl, rfl, hx, KF⟩ := hrel
      by_cases hlt : i < n
      · have x0 : ∀ W, (Instr.index 9 (.string a) (.int .i64 (i : Int))).run Tryd.prog W = .ok (.int .u8 ((keyB la i).toNat : Int)) W := str_index a i (by omega) _ rfl _ (by rw [HXa.out])
        have x1 : ∀ W, (Instr.index 9 (.string b) (.int .i64 (i : Int))).run Tryd.prog W = .ok (.int .u8 ((keyB lb i).toNat : Int)) W := str_index b i (by omega) _ rfl _ (by rw [HXb.out])
        have z1 := xor8 (keyB la i) (keyB lb i)
        have z2 := or8 x (keyB la i ^^^ keyB lb i)
        have hnx : x ||| (keyB la i ^^^ keyB lb i) = orX la lb (i + 1) := by rw [hx.out]; rfl
        generalize keyB la i ^^^ keyB lb i = y at *
        generalize x ||| y = z at *
        have Hnx := Lib.hid hnx
        clear hnx hx
        go_wp2
        go_region
        go_wp2
        go_roundw
        case rel => exact ⟨i + 1, z, by omega, by go_num, by first | rfl | rw [z2], Hnx.out, KF.out.drew⟩
        case measure => simp [intOf]; omega
      · obtain rfl : i = n := by omega
        have hxz : decide (a = b) = ((x.toNat : Int) == 0) := by
          have h1 := Hsame.out
          rw [← hx.out] at h1
          have h2 : (x.toNat : Int) = 0 ↔ x = 0 := ⟨fun h => UInt8.toNat_inj.1 (by simpa using h), fun h => by rw [h]; rfl⟩
          by_cases h : x = 0
          · rw [decide_eq_true (h1.1 h), h]; rfl
          · rw [decide_eq_false (fun e => h (h1.2 e))]
            symm
            simp only [beq_eq_false_iff_ne, ne_eq]
            exact fun e => h (h2.1 e)
        have Hxz := Lib.hid hxz
        clear hxz hlt hi
        go_wp2
        go_ret
        exact ⟨congrArg (fun t => Ending.returned (.bool t)) Hxz.out.symm, KF.out⟩
  · have hszI : ((a.size : Int) == (b.size : Int)) = false := by
      have : ¬ ((a.size : Int) = (b.size : Int)) := by omega
      simp [this]
    have hne : decide (a = b) = false := decide_eq_false (fun e => hsz (by rw [e]))
    rw [hne]
    clear hne
    go_enter Tryd.func14, Tryd.ntmps14
    go_wp2
    go_ret
    exact ⟨rfl, Fr.refl _ _⟩
end Go.Proofs.YtmcenocmilhekaaDoor
