/- Layer 5 (freq): tables: where a sign is, Has, New. -/
import Derived.Test.YtopnnbhiehljlaaFs
namespace Go.Fq
theorem idx_le (l : List UInt8) (x : UInt8) (i : Nat) (h : l[i]? = some x) : l.idxOf x ≤ i := by
  induction l generalizing i with
  | nil => simp at h
  | cons a l ih =>
    rw [List.idxOf_cons]
    by_cases e : a = x
    · simp [e]
    · cases i with
      | zero => simp at h; exact absurd h e
      | succ i =>
        have := ih i (by simpa using h)
        have e2 : (a == x) = false := by simpa using e
        rw [e2]
        simp
        omega
theorem idx_next (l : List UInt8) (x : UInt8) (i : Nat) (hi : i ≤ l.idxOf x) (hl : i < l.length) (hne : l.getD i 0 ≠ x) : i + 1 ≤ l.idxOf x := by
  rcases Nat.lt_or_ge i (l.idxOf x) with h | h
  · exact h
  · exfalso
    have e : i = l.idxOf x := by omega
    apply hne
    rw [e]
    rw [e] at hl
    exact T.getD_idx (t := ⟨l, []⟩) hl
theorem idx_at (l : List UInt8) (x : UInt8) (i : Nat) (hi : i ≤ l.idxOf x) (hl : i < l.length) (he : l.getD i 0 = x) : l.idxOf x = i := by
  have h : l[i]? = some x := by
    rw [List.getElem?_eq_getElem hl]
    rw [List.getD_eq_getElem?_getD, List.getElem?_eq_getElem hl] at he
    simpa using he
  have := idx_le l x i h
  omega
end Go.Fq
namespace Go.Proofs.Ytopnnbhiehljlaa
set_option linter.unusedVariables false
open Go.RowKit Go.My

/-- Counts as cells. -/
def intsV (c : List Nat) : List Value := c.map fun (x : Nat) => Value.int .i64 (x : Int)
theorem intsV_len (c : List Nat) : (intsV c).length = c.length := by simp [intsV]
theorem intsV_set (c : List Nat) (k y : Nat) : (intsV c).set k (.int .i64 (y : Int)) = intsV (c.set k y) := by simp [intsV, List.map_set]
theorem intsV_get {c : List Nat} {k : Nat} (h : k < c.length) : (intsV c)[k]? = some (.int .i64 ((c.getD k 0 : Nat) : Int)) := by
  simp [intsV, List.getD, List.getElem?_eq_getElem h]
theorem bytesV_get {s : List UInt8} {k : Nat} (h : k < s.length) : (bytesV s)[k]? = some (.int .u8 ((s.getD k 0).toNat : Int)) := by
  simp [bytesV, List.getD, List.getElem?_eq_getElem h]

/-- A table: its struct at block p, its signs and its counts in rows. -/
structure TabAt (w : World) (p : Nat) (t : Fq.T) (v1 v2 : Value) : Prop where
  blk : w.heap[p]? = some (.cells #[v1, v2] 72 (0, 0))
  s : w.ownsRow 0 5 1 v1 t.s.length (bytesV t.s)
  c : w.ownsRow 0 3 1 v2 t.c.length (intsV t.c)
def tabFoot (p : Nat) (v1 v2 : Value) : Nat → Prop := fun k => k = p ∨ v1.ownBlock = some k ∨ v2.ownBlock = some k
theorem TabAt.keep {w w' : World} {p : Nat} {t : Fq.T} {v1 v2 : Value} {S : Nat → Prop} (h : TabAt w p t v1 v2) (hf : Fr S w w') (hs : ∀ k, tabFoot p v1 v2 k → ¬ S k) : TabAt w' p t v1 v2 :=
  ⟨hf.keep h.blk (hs p (.inl rfl)), own_keep h.s hf (fun k hk => hs k (.inr (.inl hk))), own_keep h.c hf (fun k hk => hs k (.inr (.inr hk)))⟩
theorem TabAt.cells {w : World} {p : Nat} {t : Fq.T} {v1 v2 : Value} (h : TabAt w p t v1 v2) : w.cell? ⟨p, 0, none⟩ = some v1 ∧ w.cell? ⟨p, 1, none⟩ = some v2 ∧ w.frozen? ⟨p, 0, none⟩ = false ∧ w.frozen? ⟨p, 1, none⟩ = false :=
  ⟨(cell_of h.blk 0).trans rfl, (cell_of h.blk 1).trans rfl, free_of h.blk 0, free_of h.blk 1⟩
theorem TabAt.lt {w : World} {p : Nat} {t : Fq.T} {v1 v2 : Value} (h : TabAt w p t v1 v2) {k : Nat} (hk : tabFoot p v1 v2 k) : k < w.heap.size := by
  rcases hk with rfl | hk | hk
  · exact lt_of_block h.blk
  · obtain ⟨cur, hc⟩ := own_ty h.s hk; exact lt_of_block hc
  · obtain ⟨cur, hc⟩ := own_ty h.c hk; exact lt_of_block hc
/-- The type of the blocks of a table. -/
theorem TabAt.ty {w : World} {p : Nat} {t : Fq.T} {v1 v2 : Value} (h : TabAt w p t v1 v2) {k : Nat} (hk : tabFoot p v1 v2 k) : ∃ cs ty, w.heap[k]? = some (.cells cs ty (0, 0)) ∧ (ty = 72 ∨ ty = 5 ∨ ty = 3) := by
  rcases hk with rfl | hk | hk
  · exact ⟨_, _, h.blk, .inl rfl⟩
  · obtain ⟨cur, hc⟩ := own_ty h.s hk; exact ⟨_, _, hc, .inr (.inl rfl)⟩
  · obtain ⟨cur, hc⟩ := own_ty h.c hk; exact ⟨_, _, hc, .inr (.inr rfl)⟩
/-- A slice that owns a row: its block, or none where it is empty. -/
theorem own_val {w : World} {B e s n : Nat} {v : Value} {xs : List Value} (h : w.ownsRow B e s v n xs) : ∃ a cap, v = .slice a n cap ∧ (0 < n → ∃ g, a = some ⟨g, 0, none⟩) := by
  obtain ⟨a, cap, rfl⟩ := own_any h
  refine ⟨a, cap, rfl, fun hn => ?_⟩
  obtain ⟨g, c2, hv⟩ := own_slice h hn
  injection hv with h1
  exact ⟨g, h1⟩

theorem tab_new (w : World) : Calls Try.prog 53 #[] w fun r w' => r = .returned (.pointer (some ⟨w.heap.size, 0, none⟩)) ∧ TabAt w' w.heap.size Fq.T.none_ (.slice none 0 0) (.slice none 0 0) ∧ Fr (fun _ => False) w w' := by
  have h1 := heap_alloc_new w (.cells #[.slice none 0 0, .slice none 0 0] 72)
  have H1 := Lib.hid h1
  clear h1
  go_enter Try.func53, Try.ntmps53
  go_wp2
  go_ret
  exact ⟨rfl, ⟨H1.out, ⟨rfl, .inl ⟨rfl, rfl⟩⟩, ⟨rfl, .inl ⟨rfl, rfl⟩⟩⟩, (Fr.refl _ _).alloc _⟩

/-- A sign's place, as the program tells it. -/
def atV (t : Fq.T) (x : UInt8) : Int := if t.s.idxOf x < t.s.length then (t.s.idxOf x : Int) else -1
theorem tab_at_nil (x : Nat) (w : World) : Calls Try.prog 34 #[.pointer none, .int .u8 (x : Int)] w fun r w' => r = .returned (.int .i64 (-1)) ∧ w = w' := by
  go_enter Try.func34, Try.ntmps34
  go_wp2
  go_ret
  exact ⟨rfl, rfl⟩
set_option maxHeartbeats 2000000 in
theorem tab_at (p : Nat) (t : Fq.T) (v1 v2 : Value) (x : UInt8) (w : World) (h : TabAt w p t v1 v2) (hl : t.s.length ≤ 1000000) :
    Calls Try.prog 34 #[.pointer (some ⟨p, 0, none⟩), .int .u8 (x.toNat : Int)] w fun r w' => r = .returned (.int .i64 (atV t x)) ∧ w = w' := by
  obtain ⟨c0, c1, f0, f1⟩ := h.cells
  obtain ⟨a, cap, rfl, ha⟩ := own_val h.s
  obtain ⟨L, hL⟩ : ∃ L, t.s.length = L := ⟨_, rfl⟩
  rw [hL] at c0 hl ha
  have hli : (L : Int) ≤ 1000000 := by omega
  obtain ⟨y, hy⟩ : ∃ y, x.toNat = y := ⟨_, rfl⟩
  have hyi : (y : Int) < 256 := by have := x.toNat_lt; omega
  rw [hy]
  obtain ⟨R, hR⟩ : ∃ R, atV t x = R := ⟨_, rfl⟩
  rw [hR]
  have H := Lib.hid h
  have HL := Lib.hid hL
  have HY := Lib.hid hy
  have HR := Lib.hid hR
  have Ha := Lib.hid ha
  clear h hL hy hR c1 f0 f1 ha
  go_enter Try.func34, Try.ntmps34
  go_wp2
  go_loop [14] (fun v14 => ∃ i : Nat, i ≤ L ∧ v14 = .int .i64 (i : Int) ∧ Hid (i ≤ t.s.idxOf x)) (fun v14 => L - (intOf v14).toNat)
  case atStart => exact ⟨0, Nat.zero_le _, rfl, Nat.zero_le _⟩
  case round =>
    obtain ⟨i, hi, rfl, Hi⟩ := hrel
    by_cases hlt : i < L
    · obtain ⟨g, rfl⟩ := Ha.out (by omega)
      have hii : (i : Int) < (L : Int) := by omega
      have hc : w.cell? ⟨g, i, none⟩ = some (.int .u8 ((t.s.getD i 0).toNat : Int)) := by
        have hs := H.out.s
        rw [HL.out] at hs
        rw [World.ownsRow.cellAt hs i (by omega)]
        exact bytesV_get (by rw [HL.out]; exact hlt)
      obtain ⟨b, hb⟩ : ∃ b, t.s.getD i 0 = b := ⟨_, rfl⟩
      rw [hb] at hc
      by_cases he : b = x
      · have hidx := Fq.idx_at t.s x i Hi.out (by rw [HL.out]; exact hlt) (hb.trans he)
        have hR : R = (i : Int) := by rw [← HR.out]; unfold atV; rw [hidx, HL.out, if_pos hlt]
        rw [he, HY.out] at hc
        have HRi := Lib.hid hR
        clear hb he hidx hR
        go_wp2
        go_ret
        exact ⟨by rw [HRi.out]; rfl, rfl⟩
      · have hnx := Fq.idx_next t.s x i Hi.out (by rw [HL.out]; exact hlt) (by rw [hb]; exact he)
        have Hnx := Lib.hid hnx
        have hne : ((b.toNat : Int) == (y : Int)) = false := by
          rw [← HY.out]
          simp
          intro h
          exact he (UInt8.toNat_inj.1 (by omega))
        have hbi : (b.toNat : Int) < 256 := by have := b.toNat_lt; omega
        obtain ⟨z, hz⟩ : ∃ z, b.toNat = z := ⟨_, rfl⟩
        rw [hz] at hc hne hbi
        clear hb he hnx hz
        go_wp2
        go_round
        case rel => exact ⟨i + 1, by omega, by go_num, Hnx.out⟩
        case measure => simp [intOf]; omega
    · obtain rfl : i = L := by omega
      have hR : R = -1 := by rw [← HR.out]; unfold atV; rw [if_neg (by have := Hi.out; rw [HL.out]; omega)]
      have HRi := Lib.hid hR
      clear hR
      go_wp2
      go_ret
      exact ⟨by rw [HRi.out]; rfl, rfl⟩
theorem atV_in {t : Fq.T} {x : UInt8} (h : t.s.idxOf x < t.s.length) : atV t x = (t.s.idxOf x : Int) := if_pos h
theorem atV_out {t : Fq.T} {x : UInt8} (h : ¬ t.s.idxOf x < t.s.length) : atV t x = -1 := if_neg h

theorem tab_has_nil (x : Nat) (w : World) : Calls Try.prog 14 #[.pointer none, .int .u8 (x : Int)] w fun r w' => r = .returned (.bool false) ∧ w = w' := by
  go_enter Try.func14, Try.ntmps14
  go_wp2_with (go_at_call 34; refine (tab_at_nil x _).mono ?_; rintro r w1 ⟨rfl, rfl⟩)
  go_ret
  exact ⟨rfl, rfl⟩
set_option maxHeartbeats 1000000 in
theorem tab_has (p : Nat) (t : Fq.T) (v1 v2 : Value) (x : UInt8) (w : World) (h : TabAt w p t v1 v2) (hl : t.s.length ≤ 1000000) :
    Calls Try.prog 14 #[.pointer (some ⟨p, 0, none⟩), .int .u8 (x.toNat : Int)] w fun r w' => r = .returned (.bool (decide (t.s.idxOf x < t.s.length))) ∧ w = w' := by
  have ha := tab_at p t v1 v2 x w h hl
  by_cases hx : t.s.idxOf x < t.s.length
  · rw [atV_in hx] at ha
    rw [show decide (t.s.idxOf x < t.s.length) = true by simpa using hx]
    obtain ⟨i, hi⟩ : ∃ i, t.s.idxOf x = i := ⟨_, rfl⟩
    rw [hi] at ha
    have Ha := Lib.hid ha
    clear h hx hi ha hl
    go_enter Try.func14, Try.ntmps14
    go_wp2_with (go_at_call 34; refine Ha.out.mono ?_; rintro r w1 ⟨rfl, rfl⟩)
    go_ret
    exact ⟨rfl, rfl⟩
  · rw [atV_out hx] at ha
    rw [show decide (t.s.idxOf x < t.s.length) = false by simpa using hx]
    have Ha := Lib.hid ha
    clear h hx ha hl
    go_enter Try.func14, Try.ntmps14
    go_wp2_with (go_at_call 34; refine Ha.out.mono ?_; rintro r w1 ⟨rfl, rfl⟩)
    go_ret
    exact ⟨rfl, rfl⟩
end Go.Proofs.Ytopnnbhiehljlaa
