/- The document's tables (cassoneref05): a table in a block; a sign is pushed, a count is set. -/
import Derived.Test.YtpddocehjljofaaR5
import Derived.Test.YtpddocehjljofaaFb
namespace Go.Proofs.Ytpddocehjljofaa
set_option linter.unusedVariables false
open Go.RowKit Go.My

/-- A table: its struct at block p, its signs and its counts in rows. -/
structure QabAt (w : World) (p : Nat) (t : Fq.T) (v1 v2 : Value) : Prop where
  blk : w.heap[p]? = some (.cells #[v1, v2] 89 (0, 0))
  s : w.ownsRow 0 5 1 v1 t.s.length (bytesV t.s)
  c : w.ownsRow 0 3 1 v2 t.c.length (intsV t.c)
theorem QabAt.keep {w w' : World} {p : Nat} {t : Fq.T} {v1 v2 : Value} {S : Nat → Prop} (h : QabAt w p t v1 v2) (hf : Fr S w w') (hs : ∀ k, tabFoot p v1 v2 k → ¬ S k) : QabAt w' p t v1 v2 :=
  ⟨hf.keep h.blk (hs p (.inl rfl)), own_keep h.s hf (fun k hk => hs k (.inr (.inl hk))), own_keep h.c hf (fun k hk => hs k (.inr (.inr hk)))⟩
theorem QabAt.cells {w : World} {p : Nat} {t : Fq.T} {v1 v2 : Value} (h : QabAt w p t v1 v2) : w.cell? ⟨p, 0, none⟩ = some v1 ∧ w.cell? ⟨p, 1, none⟩ = some v2 ∧ w.frozen? ⟨p, 0, none⟩ = false ∧ w.frozen? ⟨p, 1, none⟩ = false :=
  ⟨(cell_of h.blk 0).trans rfl, (cell_of h.blk 1).trans rfl, free_of h.blk 0, free_of h.blk 1⟩
theorem QabAt.setc {w : World} {p g n cap : Nat} {t : Fq.T} {v1 : Value} (h : QabAt w p t v1 (.slice (some ⟨g, 0, none⟩) n cap)) (hn : n = t.c.length) (i y : Nat) :
    QabAt (w.setCell ⟨g, i, none⟩ (.int .i64 (y : Int))) p ⟨t.s, t.c.set i y⟩ v1 (.slice (some ⟨g, 0, none⟩) n cap) ∧ Fr (tabFoot p v1 (.slice (some ⟨g, 0, none⟩) n cap)) w (w.setCell ⟨g, i, none⟩ (.int .i64 (y : Int))) := by
  subst hn
  obtain ⟨cur, hc⟩ := own_ty h.c (g := g) rfl
  have h1 : p ≠ g := ne_of_ty h.blk hc (by decide)
  have hf : Fr (fun k => k = g) w (w.setCell ⟨g, i, none⟩ (.int .i64 (y : Int))) := (Fr.refl (fun k => k = g) w).setCell ⟨g, i, none⟩ _ (.inl rfl)
  refine ⟨⟨hf.keep h.blk h1, own_keep h.s hf (fun k hk hk2 => ?_), ?_⟩, hf.mono (fun k hk => .inl (.inr (.inr (by rw [hk]; rfl))))⟩
  · obtain ⟨cur2, hc2⟩ := own_ty h.s hk
    subst hk2
    exact ne_of_ty hc2 hc (by decide) rfl
  · have := (World.ownsRow.stored h.c i (.int .i64 (y : Int))).1
    rw [intsV_set] at this
    show World.ownsRow _ 0 3 1 _ (t.c.set i y).length _
    rw [List.length_set]
    exact this

theorem q_push {w w1 w2 : World} {p : Nat} {t : Fq.T} {v1 v2 : Value} {x : UInt8} {g1 g2 n cap1 cap2 : Nat} (h : QabAt w p t v1 v2) (hF1 : Fr (fun k => v1.ownBlock = some k) w w1)
    (hown1 : w1.ownsRow 0 5 1 (.slice (some ⟨g1, 0, none⟩) n cap1) n (bytesV t.s ++ [.int .u8 (x.toNat : Int)])) (hg1 : v1.ownBlock = some g1 ∨ w.heap.size ≤ g1) (hF2 : Fr (fun k => v2.ownBlock = some k) w1 w2)
    (hown2 : w2.ownsRow 0 3 1 (.slice (some ⟨g2, 0, none⟩) n cap2) n (intsV t.c ++ [.int .i64 1])) (hg2 : v2.ownBlock = some g2 ∨ w.heap.size ≤ g2) :
    QabAt ((w2.setCell ⟨p, 0, none⟩ (.slice (some ⟨g1, 0, none⟩) n cap1)).setCell ⟨p, 1, none⟩ (.slice (some ⟨g2, 0, none⟩) n cap2)) p ⟨t.s ++ [x], t.c ++ [1]⟩ (.slice (some ⟨g1, 0, none⟩) n cap1) (.slice (some ⟨g2, 0, none⟩) n cap2) ∧
      Step w ((w2.setCell ⟨p, 0, none⟩ (.slice (some ⟨g1, 0, none⟩) n cap1)).setCell ⟨p, 1, none⟩ (.slice (some ⟨g2, 0, none⟩) n cap2)) (tabFoot p v1 v2) (tabFoot p (.slice (some ⟨g1, 0, none⟩) n cap1) (.slice (some ⟨g2, 0, none⟩) n cap2)) := by
  have np1 : v1.ownBlock ≠ some p := fun he => by obtain ⟨cur, hc⟩ := own_ty h.s he; exact ne_of_ty hc h.blk (by decide) rfl
  have np2 : v2.ownBlock ≠ some p := fun he => by obtain ⟨cur, hc⟩ := own_ty h.c he; exact ne_of_ty hc h.blk (by decide) rfl
  have b1 := hF1.keep h.blk np1
  have b2 := hF2.keep b1 np2
  have hc1 : w1.ownsRow 0 3 1 v2 t.c.length (intsV t.c) := own_keep h.c hF1 (fun k hk hk2 => apart53 h.s h.c hk2 hk)
  have hs2 : w2.ownsRow 0 5 1 (.slice (some ⟨g1, 0, none⟩) n cap1) n (bytesV t.s ++ [.int .u8 (x.toNat : Int)]) := own_keep hown1 hF2 (fun k hk hk2 => apart53 hown1 hc1 hk hk2)
  have hfp : Fr (fun k => k = p) w2 ((w2.setCell ⟨p, 0, none⟩ (.slice (some ⟨g1, 0, none⟩) n cap1)).setCell ⟨p, 1, none⟩ (.slice (some ⟨g2, 0, none⟩) n cap2)) := ((Fr.refl (fun k => k = p) w2).setCell ⟨p, 0, none⟩ _ (.inl rfl)).setCell ⟨p, 1, none⟩ _ (.inl rfl)
  have hl1 : n = t.s.length + 1 := by have := hown1.1; simp [bytesV] at this; omega
  have hl2 : n = t.c.length + 1 := by have := hown2.1; simp [intsV] at this; omega
  refine ⟨⟨block_setCell (block_setCell b2 _) _, ?_, ?_⟩, ?_, ?_⟩
  · have := own_keep hs2 hfp (fun k hk hk2 => by obtain ⟨cur, hc⟩ := own_ty hs2 hk; subst hk2; exact ne_of_ty hc b2 (by decide) rfl)
    show World.ownsRow _ 0 5 1 _ (t.s ++ [x]).length _
    rw [List.length_append, List.length_cons, List.length_nil, ← hl1]
    simpa [bytesV] using this
  · have := own_keep hown2 hfp (fun k hk hk2 => by obtain ⟨cur, hc⟩ := own_ty hown2 hk; subst hk2; exact ne_of_ty hc b2 (by decide) rfl)
    show World.ownsRow _ 0 3 1 _ (t.c ++ [1]).length _
    rw [List.length_append, List.length_cons, List.length_nil, ← hl2]
    simpa [intsV] using this
  · refine ((hF1.mono (T := tabFoot p v1 v2) (fun k hk => .inl (.inr (.inl hk)))).trans hF2 (fun k hk => .inl (.inr (.inr hk)))).trans hfp (fun k hk => .inl (.inl hk))
  · rintro k (rfl | hk | hk)
    · exact .inl (.inl rfl)
    · simp [Value.ownBlock] at hk
      subst hk
      exact hg1.imp (fun h => .inr (.inl h)) id
    · simp [Value.ownBlock] at hk
      subst hk
      exact hg2.imp (fun h => .inr (.inr h)) id


theorem T_add_new {t : Fq.T} {x : UInt8} (h : ¬ t.s.idxOf x < t.s.length) (hc : t.c.length = t.s.length) : t.add x = ⟨t.s ++ [x], t.c ++ [1]⟩ := by
  rw [Fq.T.add_new h hc, ← hc]
  congr 1
  rw [List.set_append]
  simp
theorem own_lift {w : World} {B e s n : Nat} {v : Value} {xs : List Value} (h : w.ownsRow 0 e s v n xs) (hB : ∀ k, v.ownBlock = some k → B ≤ k) : w.ownsRow B e s v n xs := by
  obtain ⟨h1, h2⟩ := h
  refine ⟨h1, ?_⟩
  rcases h2 with h2 | ⟨g, cap, cur, rfl, hg, h3⟩
  · exact .inl h2
  · exact .inr ⟨g, cap, cur, rfl, hB g rfl, h3⟩
theorem own_low {w : World} {B e s n : Nat} {v : Value} {xs : List Value} (h : w.ownsRow B e s v n xs) : w.ownsRow 0 e s v n xs := by
  obtain ⟨h1, h2⟩ := h
  refine ⟨h1, ?_⟩
  rcases h2 with h2 | ⟨g, cap, cur, hv, hg, h3⟩
  · exact .inl h2
  · exact .inr ⟨g, cap, cur, hv, Nat.zero_le _, h3⟩
/-- The document's table as a value, in rows that were made since. -/
structure RTabN (w : World) (B : Nat) (r : Value) (t : Fq.T) : Prop where
  ex : ∃ A1 c1 A2 c2, r = .agg #[.slice A1 t.s.length c1, .slice A2 t.c.length c2] ∧ w.ownsRow B 5 1 (.slice A1 t.s.length c1) t.s.length (bytesV t.s) ∧ w.ownsRow B 3 1 (.slice A2 t.c.length c2) t.c.length (intsV t.c)
theorem QabAt.rtab {w : World} {B p c1 c2 n m : Nat} {A1 A2 : Option Addr} {t : Fq.T} (h : QabAt w p t (.slice A1 n c1) (.slice A2 m c2)) (hn : t.s.length = n) (hm : t.c.length = m) (hf : ∀ k, tabFoot p (.slice A1 n c1) (.slice A2 m c2) k → B ≤ k) : RTabN w B (.agg #[.slice A1 n c1, .slice A2 m c2]) t := by
  subst hn hm
  exact ⟨_, _, _, _, rfl, own_lift h.s (fun k hk => hf k (.inr (.inl hk))), own_lift h.c (fun k hk => hf k (.inr (.inr hk)))⟩
theorem QabAt.lt {w : World} {p : Nat} {t : Fq.T} {v1 v2 : Value} (h : QabAt w p t v1 v2) {k : Nat} (hk : tabFoot p v1 v2 k) : k < w.heap.size := by
  rcases hk with rfl | hk | hk
  · exact lt_of_block h.blk
  · obtain ⟨cur, hc⟩ := own_ty h.s hk; exact lt_of_block hc
  · obtain ⟨cur, hc⟩ := own_ty h.c hk; exact lt_of_block hc
theorem q_end {w W0 V : World} {Z Z0 ws bo n m c1 c2 : Nat} {A1 A2 : Option Addr} {t : Fq.T} (hws : w.heap.size = ws) (hZw : w.heap.size ≤ Z) (hzz : Z + 1 < Z0) (h0 : Fr (fun _ => False) w W0) (h1 : Fr (fun k => Z0 ≤ k) W0 V)
    (hQ : QabAt V bo t (.slice A1 n c1) (.slice A2 m c2)) (hn : t.s.length = n) (hm : t.c.length = m) (hft : ∀ k, tabFoot bo (.slice A1 n c1) (.slice A2 m c2) k → Z0 ≤ k) (a b : Value) :
    ∃ r', Ending.returned (.agg #[.slice A1 n c1, .slice A2 m c2]) = .returned r' ∧ RTabN ((V.setCell ⟨Z + 1, 0, none⟩ a).setCell ⟨Z + 1, 1, none⟩ b) ws r' t ∧ Fr (fun _ => False) w ((V.setCell ⟨Z + 1, 0, none⟩ a).setCell ⟨Z + 1, 1, none⟩ b) := by
  have hz : Fr (fun k => k = Z + 1) V ((V.setCell ⟨Z + 1, 0, none⟩ a).setCell ⟨Z + 1, 1, none⟩ b) := ((Fr.refl (fun k => k = Z + 1) V).setCell ⟨Z + 1, 0, none⟩ a (.inl rfl)).setCell ⟨Z + 1, 1, none⟩ b (.inl rfl)
  have hQ2 := hQ.keep hz (fun k hk e => by have := hft k hk; omega)
  refine ⟨_, rfl, hQ2.rtab hn hm (fun k hk => by have := hft k hk; omega), (h0.trans h1 (fun k hk => .inr ?_)).trans hz (fun k hk => .inr ?_)⟩
  · have : Z0 ≤ k := hk
    omega
  · have : k = Z + 1 := hk
    omega
end Go.Proofs.Ytpddocehjljofaa
