/- ArenaTypes: the walk of the law. -/
import Derived.Test.YtfmoagdhajfngaaAs
import Derived.Deep.CutBlock
namespace Go.Proofs.Ytfmoagdhajfngaa
open Go.RowKit Go.My

/-- What the arena's cells hold: lists of two strings. -/
def Lst (w : World) (s : Nat → ByteArray) (us : List Cl) : Prop :=
  ∀ j, j < us.length → ∃ b c, us[j]? = some ((b, .slice (some ⟨c, 0, none⟩) 2 2, true) : Cl) ∧ w.heap[c]? = some (.cells #[.string (s j), .string ⟨#[101, 110, 100]⟩] 9 (0, 0))

theorem Lst.push {w w' : World} {s : Nat → ByteArray} {us : List Cl} (h : Lst w s us) (hk : Keeps 70 73 (w.alloc (.cells #[.string (s us.length), .string ⟨#[101, 110, 100]⟩] 9)) w') (b : Nat) :
    Lst w' s (us ++ [(b, .slice (some ⟨w.heap.size, 0, none⟩) 2 2, true)]) := by
  intro j hj
  by_cases hlt : j < us.length
  · obtain ⟨b', c, h1, h2⟩ := h j hlt
    exact ⟨b', c, by rw [List.getElem?_append_left hlt]; exact h1, hk _ _ _ _ (block_alloc h2) (by decide) (by decide)⟩
  · simp at hj
    obtain rfl : j = us.length := by omega
    exact ⟨b, w.heap.size, by simp, hk _ _ _ _ (heap_alloc_new w _) (by decide) (by decide)⟩

set_option maxHeartbeats 1000000 in
set_option maxRecDepth 100000 in
theorem arenaTypes_walk (s : Nat → ByteArray) (ao : Option Addr) (len cap : Nat) (hlen : len ≤ 9223372036854775807) (hcap : len ≤ cap) (w : World) (ha : ao = none → cap = 0)
    (hc : ∀ i, i < len → ∃ b off, ao = some ⟨b, off, none⟩ ∧ b < w.heap.size ∧ w.cell? ⟨b, off + i, none⟩ = some (.string (s i))) :
    Calls Try.prog 7 #[.slice ao len cap] w fun e w' => e = .returned (.bool true) ∧ Fr (fun k => w.heap.size ≤ k) w w' := by
  have Hc := Lib.hid hc
  clear hc
  go_enter Try.func7, Try.ntmps7
  go_upto_region 3 with (go_at_call 21; refine (speaks17 _).mono ?_; rintro e w1 ⟨rfl, f1⟩; have F1 := Lib.hid f1; clear f1)
  generalize hT : w.heap.size = T at *
  have HT := Lib.hid hT
  clear hT
  obtain ⟨n, hn⟩ : ∃ n, min len 60 = n := ⟨_, rfl⟩
  have hn60 : n ≤ 60 := by omega
  have hnl : n ≤ len := by omega
  have hnc : n ≤ cap := by omega
  have Hc2 : Hid (∀ i, i < n → ∃ b off, ao = some ⟨b, off, none⟩ ∧ b < T ∧ w.cell? ⟨b, off + i, none⟩ = some (.string (s i))) := fun i hi => Hc.out i (by omega)
  clear Hc
  go_cut [0] (fun v0 wx => v0 = .slice ao n cap ∧ wx = w1)
  case first =>
    clear Hc2
    by_cases h60 : 60 < len
    · obtain rfl : n = 60 := by omega
      cases ao with
      | none => exfalso; have := ha rfl; omega
      | some a =>
        go_wp2
        go_meet
        case rel => exact ⟨rfl, rfl⟩
    · obtain rfl : n = len := by omega
      cases ao with
      | none =>
        obtain rfl := ha rfl
        obtain rfl : n = 0 := by omega
        go_wp2
        go_meet
        case rel => exact ⟨rfl, rfl⟩
      | some a =>
        go_wp2
        go_meet
        case rel => exact ⟨rfl, rfl⟩
  case rest =>
    obtain ⟨rfl, rfl⟩ := hcut
    clear ha hcap hn hnl hlen
    go_upto_region 5 with (go_at_call 22; refine (s_new T n (by omega) _ (by have := F1.out.size; rw [HT.out] at this; exact this)).mono ?_; rintro e w2 ⟨rfl, h2, f2⟩; have H2 := Lib.hid h2; have F2 := Lib.hid (fr_step F1.out f2); clear h2 f2 F1)
    generalize wc.heap.size = p at *
    go_wp2_with fail
    go_loopw [4, 5, 6] (fun v4 v5 v6 wr => ∃ (i : Nat) (u : Value) (us : List Cl), i ≤ n ∧ v4 = .int .i64 (i : Int) ∧ us.length = i ∧ Hid (Ar 70 72 73 T wr p n u (.slice none 0 0) us []) ∧ Hid (Fr (fun k => T ≤ k) w wr) ∧ Hid (Lst wr s us)) (fun v4 _ _ _ => n - (intOf v4).toNat)
    case atStart => exact ⟨0, _, [], Nat.zero_le _, rfl, rfl, H2, F2, fun j hj => absurd hj (by simp)⟩
    case round =>
      clear H2 F2
      obtain ⟨i, u, us, hi, rfl, hus, HA, FR, HL⟩ := hrel
      by_cases hlt : i < n
      · subst hus
        obtain ⟨b, off, rfl, hb, hcell⟩ := Hc2.out us.length hlt
        have hbel : Below w.heap.size w wr := FR.out.below (fun k hk => by rw [HT.out]; exact hk)
        have c0 := (hbel.cell (p := ⟨b, off + us.length, none⟩) (by rw [HT.out]; exact hb)).trans hcell
        have hsz : T ≤ wr.heap.size := by have := FR.out.size; rw [HT.out] at this; exact this
        have hk0 : (0 : Int) ≤ (us.length : Int) := by omega
        have hk1 : (us.length : Int) < (n : Int) := by omega
        have Hsz := Lib.hid hsz
        clear hbel hcell hb hsz
        have hX : T ≤ (wr.alloc (.cells #[.string (s us.length), .string ⟨#[101, 110, 100]⟩] 9)).heap.size := by have := Hsz.out; simp; omega
        have htk := s_take (HA.out.alloc (.cells #[.string (s us.length), .string ⟨#[101, 110, 100]⟩] 9)) hlt (by omega) hX (some ⟨wr.heap.size, 0, none⟩) 2 2
        have Htk := Lib.hid htk
        clear htk hX
        go_upto_region 9 with (go_at_call 23; refine Htk.out.mono ?_; rintro e w3 ⟨rfl, u3, b3, h3, f3, k3⟩; have H3 := Lib.hid h3; have F3 := Lib.hid (fr_step (FR.out.alloc _) f3); have L3 := Lib.hid (Lst.push HL.out k3 b3); clear h3 f3 k3 HA FR HL c0)
        have hleft := s_left H3.out (by simp)
        have hv : (n : Int) - ((us ++ [((b3, .slice (some ⟨wr.heap.size, 0, none⟩) 2 2, true) : Cl)]).length : Int) + (([] : List Nat).length : Int) = (n : Int) - us.length - 1 := by simp; omega
        rw [hv] at hleft
        have Hleft := Lib.hid hleft
        have m1 : IntKind.i64.wrap ((n : Int) - (us.length : Int)) = (n : Int) - us.length := IntWalk.i64_in _ (by omega)
        have m2 : IntKind.i64.wrap ((n : Int) - (us.length : Int) - 1) = (n : Int) - us.length - 1 := IntWalk.i64_in _ (by omega)
        clear hleft hv
        go_wp2_with (go_at_call 24; refine Hleft.out.mono ?_; rintro e w4 ⟨rfl, m, rfl⟩)
        go_roundw
        case rel => exact ⟨us.length + 1, u3, _, by omega, by go_num, by simp, H3.out.drewN m, F3.out.drewN m, fun j hj => L3.out j hj⟩
        case measure => simp [intOf]; omega
      · obtain rfl : i = n := by omega
        go_wp2_with fail
        go_loopw [7, 8] (fun v7 v8 wr => ∃ (j : Nat), j ≤ i ∧ v7 = .int .i64 (j : Int) ∧ Hid (Ar 70 72 73 T wr p i u (.slice none 0 0) us []) ∧ Hid (Fr (fun k => T ≤ k) w wr) ∧ Hid (Lst wr s us)) (fun v7 _ _ => i - (intOf v7).toNat)
        case atStart => exact ⟨0, Nat.zero_le _, rfl, HA, FR, HL⟩
        case round =>
          clear HA FR HL
          obtain ⟨j, hj, rfl, HA, FR, HL⟩ := hrel
          by_cases hjl : j < i
          · obtain ⟨b, off, rfl, hb, hcell⟩ := Hc2.out j hjl
            have hjl' : j < us.length := by rw [hus]; exact hjl
            obtain ⟨bb, c, h1, h2⟩ := HL.out j hjl'
            have hat := s_at_in HA.out j bb _ true h1
            simp only [if_true] at hat
            have hbel : Below w.heap.size w wr := FR.out.below (fun k hk => by rw [HT.out]; exact hk)
            have c0 := (hbel.cell (p := ⟨b, off + j, none⟩) (by rw [HT.out]; exact hb)).trans hcell
            have b0 : wr.cell? ⟨bb, 0, none⟩ = some (.slice (some ⟨c, 0, none⟩) 2 2) := (cell_of (HA.out.cell j bb _ true h1).1 0).trans rfl
            have d0 : wr.cell? ⟨c, 0, none⟩ = some (.string (s j)) := (cell_of h2 0).trans rfl
            have hk0 : (0 : Int) ≤ (j : Int) := by omega
            have hk1 : (j : Int) < (i : Int) := by omega
            have Hat := Lib.hid hat
            have Hus := Lib.hid hus
            clear hat hbel hcell hb h1 h2 hjl' hus
            go_wp2_with (go_at_call 25; refine Hat.out.mono ?_; rintro e w7 ⟨rfl, hw⟩; rw [hw]; clear hw)
            go_quiet (fail)
            go_wp2
            go_roundw
            case rel => exact ⟨j + 1, by omega, by go_num, HA.out.drewN nq, FR.out.drewN nq, fun k hk => HL.out k hk⟩
            case measure => simp [intOf]; omega
          · obtain rfl : j = i := by omega
            have hfull := s_full HA.out (by simp) (by rw [hus]; simp) none 0 0
            have Hfull := Lib.hid hfull
            have Hus := Lib.hid hus
            clear hfull hus
            go_wp2_with (first
              | (go_at_call 23; refine Hfull.out.mono ?_; rintro e w8 ⟨rfl, m, rfl⟩; have HA8 := Lib.hid (HA.out.drewN m); have F8 := Lib.hid (FR.out.drewN m))
              | (go_at_call 25; refine (s_at_out HA8.out ((j : Int) + 1) (.inr (by rw [Hus.out]; omega))).mono ?_; rintro e w9 ⟨rfl, hw⟩; rw [hw]; clear hw))
            go_ret
            exact ⟨by first | rfl | simp, by have := F8.out; rw [← HT.out] at this; exact this⟩
end Go.Proofs.Ytfmoagdhajfngaa
