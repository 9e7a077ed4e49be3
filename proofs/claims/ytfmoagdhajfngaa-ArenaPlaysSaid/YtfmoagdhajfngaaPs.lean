/- ArenaPlays: what stands between two operations of the law: the arena, the law's own list and its two maps. -/
import Derived.Test.YtfmoagdhajfngaaAq
import Derived.Test.YtfmoagdhajfngaaMp
import Derived.Test.YtfmoagdhajfngaaIn
import Derived.Laws.OwnMore
set_option linter.unusedVariables false
set_option linter.unusedSimpArgs false
namespace Go.My
open Go.RowKit
variable {tA tC tP : TypeId} {B : Nat} {w : World} {p room : Nat} {u f : Value} {us : List Cl} {fs : List Nat}

theorem own_base {w : World} {B e s n g : Nat} {v : Value} {xs : List Value} (h : w.ownsRow B e s v n xs) (hg : v.ownBlock = some g) : B ≤ g := by
  rcases h.2 with ⟨hv, _⟩ | ⟨g0, cap, cur, rfl, hb, hgg, _⟩
  · subst hv; cases hg
  · obtain rfl : g0 = g := by simpa [Value.ownBlock] using hg
    exact hb
theorem Fr.cell_ {S : Nat → Prop} {w w' : World} (h : Fr S w w') {b o : Nat} {v : Value} (hc : w.cell? ⟨b, o, none⟩ = some v) (hs : ¬ S b) : w'.cell? ⟨b, o, none⟩ = some v :=
  (World.cell?_of_block (w := w) (a := ⟨b, o, none⟩) (h.block b (block_lt_of_cell (a := ⟨b, o, none⟩) hc) hs)).trans hc
theorem Ar.foot_cells (h : Ar tA tC tP B w p room u f us fs) {k : Nat} (hk : Foot p u f us k) : B ≤ k ∧ ∃ cs t, w.heap[k]? = some (.cells cs t (0, 0)) := by
  rcases hk with e | e | e | ⟨i, v, t, hi⟩
  · subst e; exact ⟨h.pB, _, _, h.hp⟩
  · obtain ⟨cur, hc⟩ := own_ty h.own e
    exact ⟨own_base h.own e, _, _, hc⟩
  · obtain ⟨cur, hc⟩ := own_ty h.ofs e
    exact ⟨own_base h.ofs e, _, _, hc⟩
  · have hc := h.cell i k v t hi
    exact ⟨hc.2, _, _, hc.1⟩
theorem own_less {w : World} {B B' e s n : Nat} {v : Value} {xs : List Value} (h : w.ownsRow B e s v n xs) (hB : B' ≤ B) : w.ownsRow B' e s v n xs := by
  obtain ⟨h1, h2⟩ := h
  refine ⟨h1, ?_⟩
  rcases h2 with h2 | ⟨g, cap, cur, hv, hg, h3⟩
  · exact .inl h2
  · exact .inr ⟨g, cap, cur, hv, Nat.le_trans hB hg, h3⟩
theorem own_pop {w : World} {B g cap k0 : Nat} {gs : List Nat} (h : w.ownsRow B 3 1 (.slice (some ⟨g, 0, none⟩) (gs.length + 1) cap) (gs.length + 1) (nums (gs ++ [k0]))) :
    w.ownsRow B 3 1 (.slice (some ⟨g, 0, none⟩) gs.length cap) gs.length (nums gs) ∧ w.cell? ⟨g, gs.length, none⟩ = some (.int .i64 (k0 : Int)) ∧ gs.length ≤ cap := by
  have hcell := World.ownsRow.cells h (g := g) rfl gs.length (.int .i64 (k0 : Int)) (by simp [nums])
  have hcell' : w.cell? ⟨g, gs.length, none⟩ = some (.int .i64 (k0 : Int)) := by
    unfold Addr.add at hcell
    split at hcell
    · next h0 => rw [h0]; exact hcell
    · simpa using hcell
  obtain ⟨h1, h2⟩ := h
  rcases h2 with ⟨h0, _⟩ | ⟨g', cap', cur, hv, hg, hh, hn, hcap, hsz, htake⟩
  · cases h0
  · simp at hv
    obtain ⟨rfl, rfl⟩ := hv
    simp at hn htake
    refine ⟨⟨by simp [nums], .inr ⟨g, cap, cur, rfl, hg, hh, by omega, hcap, hsz, ?_⟩⟩, hcell', by omega⟩
    have h3 : (cur.toList.take (gs.length + 1)).take gs.length = (nums (gs ++ [k0])).take gs.length := by rw [htake]
    rw [List.take_take, Nat.min_eq_left (by omega)] at h3
    rw [Nat.mul_one, h3]
    simp [nums]
theorem own_empty (w : World) (B : Nat) (hB : B ≤ w.heap.size) (e : TypeId) : (w.alloc (.cells #[] e)).ownsRow B e 1 (.slice (some ⟨w.heap.size, 0, none⟩) 0 0) 0 [] :=
  ⟨rfl, .inr ⟨w.heap.size, 0, #[], rfl, hB, heap_alloc_new w _, Nat.le_refl 0, Nat.zero_le _, rfl, rfl⟩⟩
/-- A row behind a row. -/
theorem cat_rows {P : Program} {w : World} (t ty : TypeId) (base : Nat) (e : TypeId) (i : TypeInfo) (z : Value) (bytes : Nat) (ht : P.underlying t = some (.slice e)) (hi : P.info? e = some i) (hz : i.zero = some z)
    (hsize : i.size = 1) (hby : i.bytes = bytes) (hzs : z.cells.size = 1) {v : Value} {n : Nat} {xs : List Value} (hown : w.ownsRow base e 1 v n xs)
    {B' : Nat} {x : Value} {m : Nat} {ys : List Value} (hx : w.ownsRow B' e 1 x m ys) (h1 : ∀ u ∈ ys, u.oneCell' = true) (h63 : n + m ≤ 100000) (hb : bytes ≤ 100000) (hbase : base ≤ w.heap.size) :
    ∃ v' w', (Builtin.append_ #[t, t] ty #[v, x]).run P w = .ok v' w' ∧ w'.ownsRow base e 1 v' (n + m) (xs ++ ys) ∧ w.grownBy w' v.ownBlock ∧ (v'.ownBlock = v.ownBlock ∨ v'.ownBlock = some w.heap.size) := by
  obtain ⟨hl, h2⟩ := id hx
  rcases h2 with ⟨rfl, rfl⟩ | ⟨g, cap, cur, rfl, _, hg, hn, hc, hs, htk⟩
  · have hy : ys = [] := by simpa using hl
    subst hy
    refine ⟨v, w, run_append_owned_none w base t ty e i 1 ht hi v n xs hown, by simpa using hown, World.grownBy.refl _ _, .inl rfl⟩
  · have hq : (n + m) * bytes ≤ 140737488355328 := Nat.le_trans (Nat.mul_le_mul h63 hb) (by decide)
    obtain ⟨v', w', hr, h3, h4, _, h5⟩ := run_append_own_at (P := P) w base t ty e i z 1 bytes ht hi hz hsize hby hzs (by decide) v n xs hown ⟨g, 0, none⟩ m cap ys (by rw [hl]) (World.ownsRow.cells hx rfl) h1 (by unfold maxLen; omega) hq hbase
    exact ⟨v', w', hr, h3, h4, h5⟩
end Go.My
namespace Go.Proofs.Ytfmoagdhajfngaa
open Go.RowKit Go.My Go.Maps

theorem MapB.obj {w : World} {b n : Nat} {g : Int → Bool} (h : MapB w b n g) : ∃ es clock, w.heap[b]? = some (.map es clock) := by
  obtain ⟨D, ⟨es, clock, he, F, hs, hD⟩, hg⟩ := h
  exact ⟨es, clock, he⟩
theorem MapI.obj {w : World} {b n : Nat} {g : Int → Int} (h : MapI w b n g) : ∃ es clock, w.heap[b]? = some (.map es clock) := by
  obtain ⟨D, ⟨es, clock, he, F, hs, hD⟩, hg⟩ := h
  exact ⟨es, clock, he⟩

/-- What stands between two operations of the law. -/
structure PlS (T : Nat) (w wr : World) (p room mb mv N1 N2 : Nat) (u f l : Value) (us : List Cl) (fs lf : List Nat) (tk : Int → Bool) (vl : Int → Int) : Prop where
  ar : Ar 76 78 79 T wr p room u f us fs
  fl : wr.ownsRow T 3 1 l lf.length (nums lf)
  flF : ∀ g, l.ownBlock = some g → ¬ Foot p u f us g
  tkm : MapB wr mb N1 tk
  vlm : MapI wr mv N2 vl
  hb : T ≤ mb
  hv : T ≤ mv
  mne : mb ≠ mv
  fr : Fr (fun k => T ≤ k) w wr
  hT : T ≤ wr.heap.size

section
variable {T : Nat} {w wr w' : World} {p room mb mv N1 N2 : Nat} {u f u' f' l : Value} {us us' : List Cl} {fs fs' lf : List Nat} {tk : Int → Bool} {vl : Int → Int}
theorem PlS.footB (h : PlS T w wr p room mb mv N1 N2 u f l us fs lf tk vl) : ¬ Foot p u f us mb := by
  intro hk
  obtain ⟨_, cs, t, hc⟩ := h.ar.foot_cells hk
  obtain ⟨es, clock, he⟩ := h.tkm.obj
  rw [he] at hc; cases hc
theorem PlS.footV (h : PlS T w wr p room mb mv N1 N2 u f l us fs lf tk vl) : ¬ Foot p u f us mv := by
  intro hk
  obtain ⟨_, cs, t, hc⟩ := h.ar.foot_cells hk
  obtain ⟨es, clock, he⟩ := h.vlm.obj
  rw [he] at hc; cases hc
theorem PlS.lB (h : PlS T w wr p room mb mv N1 N2 u f l us fs lf tk vl) : l.ownBlock ≠ some mb := by
  intro hk
  obtain ⟨cur, hc⟩ := own_ty h.fl hk
  obtain ⟨es, clock, he⟩ := h.tkm.obj
  rw [he] at hc; cases hc
theorem PlS.lV (h : PlS T w wr p room mb mv N1 N2 u f l us fs lf tk vl) : l.ownBlock ≠ some mv := by
  intro hk
  obtain ⟨cur, hc⟩ := own_ty h.fl hk
  obtain ⟨es, clock, he⟩ := h.vlm.obj
  rw [he] at hc; cases hc
theorem PlS.arena (h : PlS T w wr p room mb mv N1 N2 u f l us fs lf tk vl) (hA : Ar 76 78 79 T w' p room u' f' us' fs') (hS : Step wr w' (Foot p u f us) (Foot p u' f' us')) : PlS T w w' p room mb mv N1 N2 u' f' l us' fs' lf tk vl := by
  obtain ⟨es, clock, he⟩ := h.tkm.obj
  obtain ⟨es2, clock2, he2⟩ := h.vlm.obj
  refine ⟨hA, own_keep h.fl hS.fr (fun k hk => h.flF k hk), fun g hg hk => ?_, h.tkm.same ((hS.fr.keep he h.footB).trans he.symm), h.vlm.same ((hS.fr.keep he2 h.footV).trans he2.symm), h.hb, h.hv, h.mne, h.fr.trans hS.fr (fun k hk => .inl (h.ar.foot_cells hk).1), Nat.le_trans h.hT hS.fr.size⟩
  rcases hS.foot g hk with hk | hk
  · exact h.flF g hg hk
  · obtain ⟨cur, hc⟩ := own_ty h.fl hg
    have := lt_of_block hc
    omega
theorem PlS.fresh (h : PlS T w wr p room mb mv N1 N2 u f l us fs lf tk vl) (hf : Fr (fun _ => False) wr w') : PlS T w w' p room mb mv N1 N2 u f l us fs lf tk vl :=
  h.arena (h.ar.keep fun k hk => hf.block k hk (fun x => x)) ⟨hf.mono (fun _ h => h.elim), fun _ h => .inl h⟩
theorem PlS.tkU (h : PlS T w wr p room mb mv N1 N2 u f l us fs lf tk vl) {N : Nat} {g : Int → Bool} (hm : MapB w' mb N g) (hg : wr.grownBy w' (some mb)) : PlS T w w' p room mb mv N N2 u f l us fs lf g vl := by
  have hf : Fr (fun k => k = mb) wr w' := (Fr.refl _ wr).grown hg (fun k hk => .inl (by injection hk with hk; exact hk.symm))
  obtain ⟨es2, clock2, he2⟩ := h.vlm.obj
  exact ⟨h.ar.apart hf (fun k hk => by subst hk; exact h.footB), own_keep h.fl hf (fun k hk e => by subst e; exact h.lB hk), h.flF, hm, h.vlm.same ((hf.keep he2 (fun e => h.mne e.symm)).trans he2.symm), h.hb, h.hv, h.mne, h.fr.trans hf (fun k hk => .inl (by subst hk; exact h.hb)), Nat.le_trans h.hT hf.size⟩
theorem PlS.vlU (h : PlS T w wr p room mb mv N1 N2 u f l us fs lf tk vl) {N : Nat} {g : Int → Int} (hm : MapI w' mv N g) (hg : wr.grownBy w' (some mv)) : PlS T w w' p room mb mv N1 N u f l us fs lf tk g := by
  have hf : Fr (fun k => k = mv) wr w' := (Fr.refl _ wr).grown hg (fun k hk => .inl (by injection hk with hk; exact hk.symm))
  obtain ⟨es2, clock2, he2⟩ := h.tkm.obj
  exact ⟨h.ar.apart hf (fun k hk => by subst hk; exact h.footV), own_keep h.fl hf (fun k hk e => by subst e; exact h.lV hk), h.flF, h.tkm.same ((hf.keep he2 (fun e => h.mne e)).trans he2.symm), hm, h.hb, h.hv, h.mne, h.fr.trans hf (fun k hk => .inl (by subst hk; exact h.hv)), Nat.le_trans h.hT hf.size⟩
theorem PlS.newl (h : PlS T w wr p room mb mv N1 N2 u f l us fs lf tk vl) {l' : Value} {lf' : List Nat} (hf : Fr (fun _ => False) wr w') (ho : w'.ownsRow wr.heap.size 3 1 l' lf'.length (nums lf')) : PlS T w w' p room mb mv N1 N2 u f l' us fs lf' tk vl := by
  have h' := h.fresh hf
  refine ⟨h'.ar, own_less ho h.hT, fun g hg hk => ?_, h'.tkm, h'.vlm, h.hb, h.hv, h.mne, h'.fr, h'.hT⟩
  obtain ⟨_, cs, t, hc⟩ := h.ar.foot_cells hk
  have := lt_of_block hc
  have := own_base ho hg
  omega
theorem PlS.pop {g cap k0 : Nat} {gs : List Nat} (h : PlS T w wr p room mb mv N1 N2 u f (.slice (some ⟨g, 0, none⟩) (gs.length + 1) cap) us fs (gs ++ [k0]) tk vl) : PlS T w wr p room mb mv N1 N2 u f (.slice (some ⟨g, 0, none⟩) gs.length cap) us fs gs tk vl ∧ wr.cell? ⟨g, gs.length, none⟩ = some (.int .i64 (k0 : Int)) ∧ gs.length ≤ cap := by
  have ho := h.fl
  rw [show (gs ++ [k0]).length = gs.length + 1 by simp] at ho
  obtain ⟨h1, h2, h3⟩ := own_pop ho
  exact ⟨⟨h.ar, h1, fun k hk => h.flF k hk, h.tkm, h.vlm, h.hb, h.hv, h.mne, h.fr, h.hT⟩, h2, h3⟩
/-- A new map of those that are taken, and no list. -/
theorem PlS.renew (h : PlS T w wr p room mb mv N1 N2 u f l us fs lf tk vl) : PlS T w (wr.alloc (.map #[] 0)) p room wr.heap.size mv 0 N2 u f (.slice none 0 0) us fs [] (fun _ => false) vl := by
  have h' := h.fresh ((Fr.refl (fun _ => False) wr).alloc (.map #[] 0))
  obtain ⟨es2, clock2, he2⟩ := h.vlm.obj
  have hlt := lt_of_block he2
  exact ⟨h'.ar, ⟨rfl, .inl ⟨rfl, rfl⟩⟩, fun g hg => by simp [Value.ownBlock] at hg, MapB.made wr, h'.vlm, h.hT, h.hv, by omega, h'.fr, h'.hT⟩
theorem PlS.setV (h : PlS T w wr p room mb mv N1 N2 u f l us fs lf tk vl) {j b : Nat} {v : Value} (hj : us[j]? = some ((b, v, true) : Cl)) (v' : Value) : PlS T w (wr.setCell ⟨b, 0, none⟩ v') p room mb mv N1 N2 u f l (us.set j (b, v', true)) fs lf tk vl :=
  h.arena (Ar.setVal i_tys h.ar hj v').1 (Ar.setVal_foot wr hj v')
end
end Go.Proofs.Ytfmoagdhajfngaa
