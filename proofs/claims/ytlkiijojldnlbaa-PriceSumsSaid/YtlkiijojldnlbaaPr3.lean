/- Walks of layer 15 (price): sums of packets. -/
import Derived.Test.YtlkiijojldnlbaaPr2
namespace Go.Proofs.Ytlkiijojldnlbaa
open Go.RowKit Go.Sort

/-- A table in memory. -/
structure Tb (w : World) (T : Nat) (a b c d e : Int) : Prop where
  lt : T < w.heap.size
  c0 : w.cell? ⟨T, 0, none⟩ = some (.int .i64 a)
  c1 : w.cell? ⟨T, 1, none⟩ = some (.int .i64 b)
  c2 : w.cell? ⟨T, 2, none⟩ = some (.int .i64 c)
  c3 : w.cell? ⟨T, 3, none⟩ = some (.int .i64 d)
  c4 : w.cell? ⟨T, 4, none⟩ = some (.int .i64 e)
theorem Tb.gw {w w' : World} {T : Nat} {a b c d e : Int} (h : Tb w T a b c d e) (g : Gw w w') : Tb w' T a b c d e :=
  ⟨Nat.lt_of_lt_of_le h.lt g.size, (g.cell (p := ⟨T, 0, none⟩) h.lt).trans h.c0, (g.cell (p := ⟨T, 1, none⟩) h.lt).trans h.c1, (g.cell (p := ⟨T, 2, none⟩) h.lt).trans h.c2, (g.cell (p := ⟨T, 3, none⟩) h.lt).trans h.c3, (g.cell (p := ⟨T, 4, none⟩) h.lt).trans h.c4⟩
theorem Tb.new (w : World) (a b c d e : Int) (t : TypeId) : Tb (w.alloc (.cells #[.int .i64 a, .int .i64 b, .int .i64 c, .int .i64 d, .int .i64 e] t)) w.heap.size a b c d e :=
  ⟨by simp, by simp, by simp, by simp, by simp, by simp⟩

/-- Packets: kind, distance, length, byte. -/
structure Pk where
  kind : Int
  dist : Int
  len : Int
  byte : Int
def Pk.fits (p : Pk) : Prop := -9223372036854775808 ≤ p.dist ∧ p.dist ≤ 9223372036854775807
structure PkAt (w : World) (b o : Nat) (p : Pk) : Prop where
  c0 : w.cell? ⟨b, o, none⟩ = some (.int .i64 p.kind)
  c1 : w.cell? ⟨b, o + 1, none⟩ = some (.int .i64 p.dist)
  c2 : w.cell? ⟨b, o + 2, none⟩ = some (.int .i64 p.len)
  c3 : w.cell? ⟨b, o + 3, none⟩ = some (.int .u8 p.byte)
theorem PkAt.gw {w w' : World} {b o : Nat} {p : Pk} (h : PkAt w b o p) (g : Gw w w') (hb : b < w.heap.size) : PkAt w' b o p :=
  ⟨(g.cell (p := ⟨b, o, none⟩) hb).trans h.c0, (g.cell (p := ⟨b, o + 1, none⟩) hb).trans h.c1, (g.cell (p := ⟨b, o + 2, none⟩) hb).trans h.c2, (g.cell (p := ⟨b, o + 3, none⟩) hb).trans h.c3⟩

def mt (b c d e : Int) (p : Pk) : Int := b + ln c d p.len + e * (dbits p.dist : Nat)
def cost (a b c d e : Int) (p : Pk) : Int := if p.kind = 1 then a else mt b c d e p
def costs (a b c d e : Int) (f : Nat → Pk) : Nat → Int
  | 0 => 0
  | n + 1 => costs a b c d e f n + cost a b c d e (f n)
def okk (p : Pk) : Prop := p.kind = 1 ∨ p.kind = 2
structure Rg (a b c d e : Int) : Prop where
  a : 1 ≤ a ∧ a ≤ 10000
  b : 1 ≤ b ∧ b ≤ 10000
  c : 1 ≤ c ∧ c ≤ 10000
  d : 1 ≤ d ∧ d ≤ 10000
  e : 1 ≤ e ∧ e ≤ 10000

theorem mt_range {a b c d e : Int} (r : Rg a b c d e) (p : Pk) (hp : p.fits) : 0 ≤ mt b c d e p ∧ mt b c d e p ≤ 1000000 := by
  unfold mt
  have := mul_range p.dist r.e hp.2
  have := ln_range p.len r.c r.d
  have := r.b
  omega
theorem cost_range {a b c d e : Int} (r : Rg a b c d e) (p : Pk) (hp : p.fits) : 0 ≤ cost a b c d e p ∧ cost a b c d e p ≤ 1000000 := by
  unfold cost
  have := mt_range r p hp
  have := r.a
  split <;> omega
theorem costs_range {a b c d e : Int} (r : Rg a b c d e) (f : Nat → Pk) (hp : ∀ i, (f i).fits) : ∀ n : Nat, 0 ≤ costs a b c d e f n ∧ costs a b c d e f n ≤ 1000000 * n
  | 0 => by simp [costs]
  | n + 1 => by
      have h1 := costs_range r f hp n
      have h2 := cost_range r (f n) (hp n)
      unfold costs
      omega

set_option maxHeartbeats 4000000 in
set_option maxRecDepth 100000 in
theorem of_is (a b c d e : Int) (r : Rg a b c d e) (f : Nat → Pk) (hf : ∀ i, (f i).fits) (B off len cap : Nat) (hlen : len ≤ 40) (R : Int) (O : Bool)
    (hR : ((∀ i, i < len → okk (f i)) ∧ R = costs a b c d e f len ∧ O = true) ∨ ((∃ i, i < len ∧ ¬ okk (f i)) ∧ R = 0 ∧ O = false))
    (w : World) (hB : B < w.heap.size) (hc : ∀ i, i < len → PkAt w B (off + i * 4) (f i)) :
    Calls Try.prog 15 #[.agg #[.int .i64 a, .int .i64 b, .int .i64 c, .int .i64 d, .int .i64 e], .slice (some ⟨B, off, none⟩) len cap] w fun x w' => x = .returned (.tuple #[.int .i64 R, .bool O]) ∧ Gw w w' := by
  have HR := Lib.hid hR
  have Hc := Lib.hid hc
  have HB := Lib.hid hB
  have HF := Lib.hid hf
  have Hr := Lib.hid r
  clear hR hc hB hf r
  go_enter Try.func15, Try.ntmps15
  go_upto_region 1 with fail
  have ht := Tb.new w a b c d e 25
  have hg : Gw w (w.alloc (.cells #[.int .i64 a, .int .i64 b, .int .i64 c, .int .i64 d, .int .i64 e] 25)) := (Gw.refl w).alloc _
  generalize w.alloc (.cells #[.int .i64 a, .int .i64 b, .int .i64 c, .int .i64 d, .int .i64 e] 25) = w1 at *
  generalize hT : w.heap.size = T at *
  have HT := Lib.hid hT
  clear hT
  have Ht := Lib.hid ht
  have Hg := Lib.hid hg
  clear ht hg
  go_wp2_with fail
  go_loopw [6, 11] (fun v6 v11 wr => ∃ k : Nat, k ≤ len ∧ v6 = .int .i64 (costs a b c d e f k) ∧ v11 = .int .i64 (k : Int) ∧ Hid (∀ i, i < k → okk (f i)) ∧ Hid (Gw w wr) ∧ Hid (Tb wr T a b c d e)) (fun _ v11 _ => len - (intOf v11).toNat)
  case atStart => exact ⟨0, by omega, rfl, rfl, fun i hi => absurd hi (by omega), Hg, Ht⟩
  case round =>
    clear Ht Hg
    obtain ⟨k, hk, rfl, rfl, hok, hgw, htb⟩ := hrel
    have hS := costs_range Hr.out f HF.out k
    by_cases hlt : k < len
    · have hp := (Hc.out k hlt).gw hgw.out (by rw [HT.out]; exact HB.out)
      obtain ⟨p0, p1, p2, p3⟩ := hp
      have hk0 : (0 : Int) ≤ (k : Int) := by omega
      have hk1 : (k : Int) < (len : Int) := by omega
      have hfit := HF.out k
      have hcr := cost_range Hr.out (f k) hfit
      have hcs : costs a b c d e f (k + 1) = costs a b c d e f k + cost a b c d e (f k) := rfl
      have Hcs := Lib.hid hcs
      clear hcs
      generalize costs a b c d e f k = S at *
      have hbad : ¬ okk (f k) → Hid (R = 0 ∧ O = false) := by
        intro hn
        rcases HR.out with h | h
        · exact absurd (h.1 k hlt) hn
        · exact h.2
      have hgood : okk (f k) → Hid (∀ i, i < k + 1 → okk (f i)) := by
        intro hy i hi
        by_cases h : i = k
        · subst h; exact hy
        · exact hok.out i (by omega)
      have Hbad := Lib.hid hbad
      have Hgood := Lib.hid hgood
      clear hbad hgood hok HR
      have Hcr := Lib.hid hcr
      have Hfit := Lib.hid hfit
      clear hcr hfit
      generalize f k = p at *
      obtain ⟨kind, dist, pl, pb⟩ := p
      replace p0 : wr.cell? ⟨B, off + k * 4, none⟩ = some (.int .i64 kind) := p0
      replace p1 : wr.cell? ⟨B, off + k * 4 + 1, none⟩ = some (.int .i64 dist) := p1
      replace p2 : wr.cell? ⟨B, off + k * 4 + 2, none⟩ = some (.int .i64 pl) := p2
      replace p3 : wr.cell? ⟨B, off + k * 4 + 3, none⟩ = some (.int .u8 pb) := p3
      go_upto_region 5 with fail
      have hgw' : Gw w (wr.alloc (.cells #[.int .i64 kind, .int .i64 dist, .int .i64 pl, .int .u8 pb] 33)) := hgw.out.alloc _
      have htb' := htb.out.gw ((Gw.refl wr).alloc (.cells #[.int .i64 kind, .int .i64 dist, .int .i64 pl, .int .u8 pb] 33))
      have hX : wr.heap.size < (wr.alloc (.cells #[.int .i64 kind, .int .i64 dist, .int .i64 pl, .int .u8 pb] 33)).heap.size := by simp
      have x0 : (wr.alloc (.cells #[.int .i64 kind, .int .i64 dist, .int .i64 pl, .int .u8 pb] 33)).cell? ⟨wr.heap.size, 0, none⟩ = some (.int .i64 kind) := by simp
      have x1 : (wr.alloc (.cells #[.int .i64 kind, .int .i64 dist, .int .i64 pl, .int .u8 pb] 33)).cell? ⟨wr.heap.size, 1, none⟩ = some (.int .i64 dist) := by simp
      have x2 : (wr.alloc (.cells #[.int .i64 kind, .int .i64 dist, .int .i64 pl, .int .u8 pb] 33)).cell? ⟨wr.heap.size, 2, none⟩ = some (.int .i64 pl) := by simp
      clear p0 p1 p2 p3 hgw htb
      generalize wr.alloc (.cells #[.int .i64 kind, .int .i64 dist, .int .i64 pl, .int .u8 pb] 33) = W at *
      generalize wr.heap.size = X at *
      obtain ⟨tlt, t0, t1, t2, t3, t4⟩ := htb'
      have htb : Hid (Tb W T a b c d e) := ⟨tlt, t0, t1, t2, t3, t4⟩
      have hgw := Lib.hid hgw'
      clear hgw'
      by_cases k1 : kind = 1
      · subst k1
        have hcost : Hid (S + cost a b c d e ⟨1, dist, pl, pb⟩ = S + a) := by show _ = _; unfold cost; rw [if_pos rfl]
        have hr1 := Hr.out.a
        have hmm : IntKind.i64.wrap (S + a) = S + a := IntWalk.i64_in _ (by omega)
        have hok' := Hgood.out (.inl rfl)
        clear Hbad Hgood Hcr x1 x2 t1 t2 t3 t4
        go_wp2
        go_round
        case rel => exact ⟨k + 1, by omega, by rw [Hcs.out, hcost.out], by go_num, hok', hgw, htb⟩
        case measure => simp [intOf]; omega
      · have k1' : (kind == 1) = false := by simpa using k1
        by_cases k2 : kind = 2
        · subst k2
          have hcost : Hid (S + cost a b c d e ⟨2, dist, pl, pb⟩ = S + (b + ln c d pl + e * (dbits dist : Nat))) := by show _ = _; unfold cost; rw [if_neg k1]; rfl
          have hmr := mul_range dist Hr.out.e Hfit.out.2
          have hlr := ln_range pl Hr.out.c Hr.out.d
          have hr1 := Hr.out.b
          have hdi := fun w => dist_is a b c d e dist ⟨by have := Hr.out.e; omega, Hr.out.e.2⟩ Hfit.out.2 w
          have hli := fun w => length_is a b c d e pl w
          change ∀ w, Calls Try.prog 11 _ w fun x w' => x = .returned (.int .i64 (ln c d pl)) ∧ Gw w w' at hli
          generalize hE : e * ((dbits dist : Nat) : Int) = E at *
          generalize ln c d pl = L at *
          have Hdi := Lib.hid hdi
          have Hli := Lib.hid hli
          have m1 : IntKind.i64.wrap (b + L) = b + L := IntWalk.i64_in _ (by omega)
          have m2 : IntKind.i64.wrap (b + L + E) = b + L + E := IntWalk.i64_in _ (by omega)
          have m3 : IntKind.i64.wrap (S + (b + L + E)) = S + (b + L + E) := IntWalk.i64_in _ (by omega)
          have hok' := Hgood.out (.inr rfl)
          have g0 := fun n os => cell_grown (a := ⟨T, 0, none⟩) tlt t0 n os
          have g1 := fun n os => cell_grown (a := ⟨T, 1, none⟩) tlt t1 n os
          have g2 := fun n os => cell_grown (a := ⟨T, 2, none⟩) tlt t2 n os
          have g3 := fun n os => cell_grown (a := ⟨T, 3, none⟩) tlt t3 n os
          have g4 := fun n os => cell_grown (a := ⟨T, 4, none⟩) tlt t4 n os
          have y1 := fun n os => cell_grown (a := ⟨X, 1, none⟩) hX x1 n os
          have y2 := fun n os => cell_grown (a := ⟨X, 2, none⟩) hX x2 n os
          have mixed : Try.prog.follows .mixedOrders = true := by kernel_rfl
          clear Hbad Hgood Hcr hdi hli hE hmr hlr
          go_wp2_with fail
          go_quiet_grown (first | (go_at_call 11; exact Calls.grown_of (Hli.out _)) | (go_at_call 12; exact Calls.grown_of (Hdi.out _)))
          go_wp2
          go_round
          case rel => exact ⟨k + 1, by omega, by rw [Hcs.out, hcost.out], by go_num, hok', hgw.out.grow _ _, htb.out.gw ((Gw.refl _).grow _ _)⟩
          case measure => simp [intOf]; omega
        · have k2' : (kind == 2) = false := by simpa using k2
          have hn : ¬ okk ⟨kind, dist, pl, pb⟩ := fun h => h.elim k1 k2
          have hfin := Hbad.out hn
          clear Hbad Hgood Hcr x1 x2 t0 t1 t2 t3 t4
          go_wp2
          go_ret2
          exact ⟨by rw [hfin.out.1, hfin.out.2]; rfl, hgw.out⟩
    · obtain rfl : k = len := by omega
      have hfin : Hid (R = costs a b c d e f k ∧ O = true) := by
        rcases HR.out with h | ⟨⟨i, hi, hn⟩, _⟩
        · exact h.2
        · exact absurd (hok.out i hi) hn
      clear HR hok
      go_wp2
      go_ret2
      exact ⟨by rw [hfin.out.1, hfin.out.2]; rfl, hgw.out⟩
end Go.Proofs.Ytlkiijojldnlbaa
