/- PriceSums: the walk of the law. -/
import Derived.Test.YtlkiijojldnlbaaPr4
import Derived.Maps.AppendAt
import Derived.Laws.AppendOwn
namespace Go.Proofs.Ytlkiijojldnlbaa
open Go.RowKit Go.Sort

theorem below_gw {n : Nat} {a b c : World} (h : Below n a b) (hn : n ≤ b.heap.size) (g : Gw b c) : Below n a c := by
  have k := g.below
  exact ⟨k.os.trans h.os, k.tape.trans h.tape, k.output.trans h.output, Nat.le_trans h.size k.size, fun i hi => (k.block i (by omega)).trans (h.block i hi)⟩
theorem below_trans {n m : Nat} {a b c : World} (h : Below n a b) (hn : n ≤ m) (k : Below m b c) : Below n a c :=
  ⟨k.os.trans h.os, k.tape.trans h.tape, k.output.trans h.output, Nat.le_trans h.size k.size, fun i hi => (k.block i (by omega)).trans (h.block i hi)⟩
theorem Tb.below {w w' : World} {T n : Nat} {a b c d e : Int} (h : Tb w T a b c d e) (g : Below n w w') (hn : T < n) (hs : w.heap.size ≤ w'.heap.size) : Tb w' T a b c d e :=
  ⟨Nat.lt_of_lt_of_le h.lt hs, (g.cell (p := ⟨T, 0, none⟩) hn).trans h.c0, (g.cell (p := ⟨T, 1, none⟩) hn).trans h.c1, (g.cell (p := ⟨T, 2, none⟩) hn).trans h.c2, (g.cell (p := ⟨T, 3, none⟩) hn).trans h.c3, (g.cell (p := ⟨T, 4, none⟩) hn).trans h.c4⟩
theorem PkAt.below {w w' : World} {b o n : Nat} {p : Pk} (h : PkAt w b o p) (g : Below n w w') (hb : b < n) : PkAt w' b o p :=
  ⟨(g.cell (p := ⟨b, o, none⟩) hb).trans h.c0, (g.cell (p := ⟨b, o + 1, none⟩) hb).trans h.c1, (g.cell (p := ⟨b, o + 2, none⟩) hb).trans h.c2, (g.cell (p := ⟨b, o + 3, none⟩) hb).trans h.c3⟩

def Pk.row (p : Pk) : List Value := [.int .i64 p.kind, .int .i64 p.dist, .int .i64 p.len, .int .u8 p.byte]
def rows (f : Nat → Pk) : Nat → List Value
  | 0 => []
  | n + 1 => rows f n ++ (f n).row
theorem rows_length (f : Nat → Pk) : ∀ n, (rows f n).length = n * 4
  | 0 => rfl
  | n + 1 => by simp [rows, Pk.row, rows_length f n]; omega
theorem rows_at (f : Nat → Pk) : ∀ n i j, i < n → j < 4 → (rows f n)[i * 4 + j]? = (f i).row[j]?
  | 0, i, j, h, _ => by omega
  | n + 1, i, j, h, hj => by
      have hl := rows_length f n
      by_cases h2 : i < n
      · rw [rows, List.getElem?_append_left (by omega)]
        exact rows_at f n i j h2 hj
      · obtain rfl : i = n := by omega
        rw [rows, List.getElem?_append_right (by omega), hl, show i * 4 + j - i * 4 = j by omega]

theorem addp (b o i : Nat) : (⟨b, o, none⟩ : Addr).add i = ⟨b, o + i, none⟩ := by
  unfold Addr.add
  split
  · simp [*]
  · rfl

set_option maxRecDepth 100000 in
theorem of_nil (a b c d e : Int) (w : World) :
    Calls Try.prog 15 #[.agg #[.int .i64 a, .int .i64 b, .int .i64 c, .int .i64 d, .int .i64 e], .slice none 0 0] w fun x w' => x = .returned (.tuple #[.int .i64 0, .bool true]) ∧ Gw w w' := by
  go_enter Try.func15, Try.ntmps15
  go_wp2
  go_loop [6, 11] (fun v6 v11 => v6 = .int .i64 0 ∧ v11 = .int .i64 0) (fun _ _ => 0)
  case atStart => exact ⟨rfl, rfl⟩
  case round =>
    obtain ⟨rfl, rfl⟩ := hrel
    go_wp2
    go_ret2
    exact ⟨rfl, (Gw.refl _).alloc _⟩

theorem of_own (a b c d e : Int) (r : Rg a b c d e) (f : Nat → Pk) (hf : ∀ i, (f i).fits) (B k : Nat) (v : Value) (hk : k ≤ 40) (R : Int) (O : Bool)
    (hR : ((∀ i, i < k → okk (f i)) ∧ R = costs a b c d e f k ∧ O = true) ∨ ((∃ i, i < k ∧ ¬ okk (f i)) ∧ R = 0 ∧ O = false))
    (w : World) (hown : w.ownsRow B 33 4 v k (rows f k)) :
    Calls Try.prog 15 #[.agg #[.int .i64 a, .int .i64 b, .int .i64 c, .int .i64 d, .int .i64 e], v] w fun x w' => x = .returned (.tuple #[.int .i64 R, .bool O]) ∧ Gw w w' := by
  have hcells := fun g cap (hv : v = .slice (some ⟨g, 0, none⟩) k cap) => World.ownsRow.cells hown (g := g) (by rw [hv]; rfl)
  rcases hown.2 with ⟨hn, hv⟩ | ⟨g, cap, cur, hv, hB, hg, _⟩
  · subst hv
    subst hn
    rcases hR with ⟨_, h1, h2⟩ | ⟨⟨i, hi, _⟩, _⟩
    · subst h1
      subst h2
      exact of_nil a b c d e w
    · omega
  · have hc := hcells g cap hv
    rw [hv]
    refine of_is a b c d e r f hf g 0 k cap hk R O hR w (Array.getElem?_eq_some_iff.1 hg).1 (fun i hi => ?_)
    have h := fun j (hj : j < 4) u (hu : (f i).row[j]? = some u) => hc (i * 4 + j) u ((rows_at f k i j hi hj).trans hu)
    refine ⟨?_, ?_, ?_, ?_⟩
    · have := h 0 (by omega) _ rfl
      rw [addp] at this
      simpa [Pk.row] using this
    · have := h 1 (by omega) _ rfl
      rw [addp] at this
      simpa [Pk.row] using this
    · have := h 2 (by omega) _ rfl
      rw [addp] at this
      simpa [Pk.row] using this
    · have := h 3 (by omega) _ rfl
      rw [addp] at this
      simpa [Pk.row] using this
end Go.Proofs.Ytlkiijojldnlbaa
