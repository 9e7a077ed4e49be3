/- ArenaPlays: the arena's functions, and the maps, in words of the stage. -/
import Derived.Test.YtfmoagdhajfngaaPs
set_option linter.unusedVariables false
set_option linter.unusedSimpArgs false
namespace Go.Proofs.Ytfmoagdhajfngaa
open Go.RowKit Go.My Go.Maps

/-- An act's block stays. -/
def Kp (w w' : World) : Prop := ∀ (X : Nat) (cs : Array Value), w.heap[X]? = some (.cells cs 59 (0, 0)) → w'.heap[X]? = some (.cells cs 59 (0, 0))
theorem Kp.refl (w : World) : Kp w w := fun _ _ h => h
theorem Kp.fr {w w' : World} (hf : Fr (fun _ => False) w w') : Kp w w' := fun _ _ h => hf.keep h (fun x => x)
theorem Kp.trans {a b c : World} (h : Kp a b) (k : Kp b c) : Kp a c := fun X cs hx => k X cs (h X cs hx)
section
variable {T : Nat} {w wr w' : World} {p room mb mv N1 N2 : Nat} {u f u' f' l : Value} {us us' : List Cl} {fs fs' lf : List Nat} {tk : Int → Bool} {vl : Int → Int}
theorem foot59 (h : Ar 76 78 79 T wr p room u f us fs) {X : Nat} {cs : Array Value} (hX : wr.heap[X]? = some (.cells cs 59 (0, 0))) : ¬ Foot p u f us X := by
  intro hk
  rcases hk with e | e | e | ⟨i, v, t, hi⟩
  · exact ne_of_ty hX h.hp (by decide) e
  · obtain ⟨cur, hc⟩ := own_ty h.own e
    rw [hX] at hc; injection hc with hc; injection hc with _ h1 _; cases h1
  · obtain ⟨cur, hc⟩ := own_ty h.ofs e
    rw [hX] at hc; injection hc with hc; injection hc with _ h1 _; cases h1
  · have hc := (h.cell i X v t hi).1
    rw [hX] at hc; injection hc with hc; injection hc with _ h1 _; cases h1
theorem PlS.kp (h : PlS T w wr p room mb mv N1 N2 u f l us fs lf tk vl) {S' : Nat → Prop} (hS : Step wr w' (Foot p u f us) S') : Kp wr w' := fun X cs hX => hS.fr.keep hX (foot59 h.ar hX)
theorem PlS.kpB (h : PlS T w wr p room mb mv N1 N2 u f l us fs lf tk vl) (hg : wr.grownBy w' (some mb)) : Kp wr w' := by
  obtain ⟨es, clock, he⟩ := h.tkm.obj
  have hf : Fr (fun k => k = mb) wr w' := (Fr.refl _ wr).grown hg (fun k hk => .inl (by injection hk with hk; exact hk.symm))
  exact fun X cs hX => hf.keep hX (fun e => by subst e; rw [he] at hX; cases hX)
theorem PlS.kpV (h : PlS T w wr p room mb mv N1 N2 u f l us fs lf tk vl) (hg : wr.grownBy w' (some mv)) : Kp wr w' := by
  obtain ⟨es, clock, he⟩ := h.vlm.obj
  have hf : Fr (fun k => k = mv) wr w' := (Fr.refl _ wr).grown hg (fun k hk => .inl (by injection hk with hk; exact hk.symm))
  exact fun X cs hX => hf.keep hX (fun e => by subst e; rw [he] at hX; cases hX)

theorem pl_at_no (h : PlS T w wr p room mb mv N1 N2 u f l us fs lf tk vl) (hi : Inv us fs tk vl) {k : Int} (hk : tk k = false) :
    Calls Try.prog 28 #[.pointer (some ⟨p, 0, none⟩), .int .i64 k] wr fun e w' => e = .returned (.pointer none) ∧ w' = wr := by
  rcases hi.place k with ⟨_, ho | ⟨j, b, v, rfl, hj⟩⟩ | ⟨h1, _⟩
  · exact i_at_out h.ar k ho
  · exact (i_at_in h.ar j b v false hj).mono (fun e w' he => by simpa using he)
  · rw [hk] at h1; cases h1
theorem pl_at_yes (h : PlS T w wr p room mb mv N1 N2 u f l us fs lf tk vl) (hi : Inv us fs tk vl) {k : Int} (hk : tk k = true) :
    ∃ j b : Nat, k = (j : Int) + 1 ∧ us[j]? = some ((b, .int .i64 (vl k), true) : Cl) ∧ wr.heap[b]? = some (.cells #[.int .i64 (vl k), .bool true] 78 (0, 0)) ∧
      Calls Try.prog 28 #[.pointer (some ⟨p, 0, none⟩), .int .i64 k] wr fun e w' => e = .returned (.pointer (some ⟨b, 0, none⟩)) ∧ w' = wr := by
  rcases hi.place k with ⟨h1, _⟩ | ⟨_, j, b, rfl, hj⟩
  · rw [hk] at h1; cases h1
  · exact ⟨j, b, rfl, hj, (h.ar.cell _ _ _ _ hj).1, (i_at_in h.ar j b _ true hj).mono (fun e w' he => by simpa using he)⟩
theorem pl_free_no (h : PlS T w wr p room mb mv N1 N2 u f l us fs lf tk vl) (hi : Inv us fs tk vl) {k : Int} (hk : tk k = false) :
    Calls Try.prog 27 #[.pointer (some ⟨p, 0, none⟩), .int .i64 k] wr fun e w' => e = .returned (.bool false) ∧ w' = wr := i_free_no p k wr (pl_at_no h hi hk)
theorem pl_free_yes (h : PlS T w wr p room mb mv N1 N2 u f l us fs lf tk vl) (hi : Inv us fs tk vl) (hsm : fs.length ≤ 100000) {k : Int} (hk : tk k = true) :
    Calls Try.prog 27 #[.pointer (some ⟨p, 0, none⟩), .int .i64 k] wr fun e w' => e = .returned (.bool true) ∧ (∃ f' us', PlS T w w' p room mb mv N1 N2 u f' l us' (fs ++ [k.toNat]) lf tk vl ∧ Inv us' (fs ++ [k.toNat]) (fun i => if i = k then false else tk i) vl ∧ us'.length = us.length) ∧ Kp wr w' := by
  rcases hi.place k with ⟨h1, _⟩ | ⟨_, j, b, rfl, hj⟩
  · rw [hk] at h1; cases h1
  · refine (i_freeF h.ar h.hT hsm hj).mono ?_
    rintro e w' ⟨rfl, f', hA, hS⟩
    have e1 : ((j : Int) + 1).toNat = j + 1 := by omega
    rw [e1]
    exact ⟨rfl, ⟨f', _, h.arena hA hS, hi.free hj, by simp⟩, h.kp hS⟩
theorem pl_take_new (h : PlS T w wr p room mb mv N1 N2 u f l us [] lf tk vl) (hi : Inv us [] tk vl) (hroom : us.length < room) (hsm : us.length ≤ 100000) (x : Int) :
    Calls Try.prog 30 #[.pointer (some ⟨p, 0, none⟩), .int .i64 x] wr fun e w' => e = .returned (.tuple #[.int .i64 ((us.length : Int) + 1), .bool true]) ∧ (∃ u' us', PlS T w w' p room mb mv N1 N2 u' f l us' [] lf tk vl ∧
      Inv us' [] (fun i => if i = (us.length : Int) + 1 then true else tk i) (fun i => if i = (us.length : Int) + 1 then x else vl i) ∧ us'.length = us.length + 1) ∧ Kp wr w' := by
  refine (i_takeF h.ar hroom hsm h.hT x).mono ?_
  rintro e w' ⟨rfl, u', b, hA, hS⟩
  exact ⟨rfl, ⟨u', _, h.arena hA hS, hi.push b x, by simp⟩, h.kp hS⟩
theorem pl_take_again {gs : List Nat} {k0 : Nat} (h : PlS T w wr p room mb mv N1 N2 u f l us (gs ++ [k0]) lf tk vl) (hi : Inv us (gs ++ [k0]) tk vl) (x : Int) :
    Calls Try.prog 30 #[.pointer (some ⟨p, 0, none⟩), .int .i64 x] wr fun e w' => e = .returned (.tuple #[.int .i64 (k0 : Int), .bool true]) ∧ (∃ f' us', PlS T w w' p room mb mv N1 N2 u f' l us' gs lf tk vl ∧
      Inv us' gs (fun i => if i = (k0 : Int) then true else tk i) (fun i => if i = (k0 : Int) then x else vl i) ∧ us'.length = us.length) ∧ Kp wr w' := by
  obtain ⟨j, b, v, rfl, hj⟩ := hi.fre k0 (by simp)
  have hfl := hi.fle
  refine (i_retakeF h.ar (by simpa using hfl) hj x).mono ?_
  rintro e w' ⟨rfl, f', hA, hS⟩
  refine ⟨by simp, ⟨f', _, h.arena hA hS, ?_, by simp⟩, h.kp hS⟩
  have := hi.retake hj x
  simpa using this
theorem pl_take_full (h : PlS T w wr p room mb mv N1 N2 u f l us [] lf tk vl) (hroom : us.length = room) (x : Int) :
    Calls Try.prog 30 #[.pointer (some ⟨p, 0, none⟩), .int .i64 x] wr fun e w' => e = .returned (.tuple #[.int .i64 0, .bool false]) ∧ Fr (fun _ => False) wr w' := by
  refine (i_full h.ar (by simp) (by simp; omega) x).mono ?_
  rintro e w' ⟨rfl, n, rfl⟩
  exact ⟨rfl, (Fr.refl _ _).drewN n⟩
theorem pl_left (h : PlS T w wr p room mb mv N1 N2 u f l us fs lf tk vl) (hi : Inv us fs tk vl) :
    Calls Try.prog 31 #[.pointer (some ⟨p, 0, none⟩)] wr fun e w' => e = .returned (.int .i64 ((room : Int) - us.length + fs.length)) ∧ Fr (fun _ => False) wr w' := by
  refine (i_left h.ar hi.fle).mono ?_
  rintro e w' ⟨rfl, n, rfl⟩
  exact ⟨rfl, (Fr.refl _ _).drewN n⟩
theorem pl_clear (h : PlS T w wr p room mb mv N1 N2 u f l us fs lf tk vl) :
    Calls Try.prog 29 #[.pointer (some ⟨p, 0, none⟩)] wr fun e w' => e = .returned (.tuple #[]) ∧ PlS T w w' p room mb mv N1 N2 (.slice none 0 0) (.slice none 0 0) l [] [] lf tk vl ∧ Kp wr w' := by
  refine (i_clear h.ar).mono ?_
  rintro e w' ⟨rfl, hA, hS⟩
  exact ⟨rfl, h.arena hA hS, h.kp hS⟩
theorem wf64 {x : Int} (h : -9223372036854775808 ≤ x ∧ x ≤ 9223372036854775807) : (Lit.int .i64 x).wf = true := by
  simp [Lit.wf, IntKind.min, IntKind.max, IntKind.bits, IntKind.signed]
  omega
theorem PlS.lookB (h : PlS T w wr p room mb mv N1 N2 u f l us fs lf tk vl) {k : Int} (hk : (Lit.int .i64 k).wf = true) : (Instr.lookup 55 (.map (some mb)) (.int .i64 k) false).run Try.prog wr = .ok (.bool (tk k)) wr := h.tkm.look hk
theorem PlS.lookV (h : PlS T w wr p room mb mv N1 N2 u f l us fs lf tk vl) {k : Int} (hk : (Lit.int .i64 k).wf = true) : (Instr.lookup 56 (.map (some mv)) (.int .i64 k) false).run Try.prog wr = .ok (.int .i64 (vl k)) wr := h.vlm.look hk
theorem PlS.putB (h : PlS T w wr p room mb mv N1 N2 u f l us fs lf tk vl) (hn : N1 ≤ 1000) {k : Int} (hk : (Lit.int .i64 k).wf = true) (x : Bool) :
    ∃ w', (Instr.mapUpdate 55 (.map (some mb)) (.int .i64 k) (.bool x)).run Try.prog wr = .ok () w' ∧ PlS T w w' p room mb mv (N1 + 1) N2 u f l us fs lf (fun j => if j = k then x else tk j) vl ∧ Kp wr w' := by
  obtain ⟨w', h1, h2, h3⟩ := h.tkm.upd (by unfold maxLen; omega) hk x
  exact ⟨w', h1, h.tkU h2 h3, h.kpB h3⟩
theorem PlS.putV (h : PlS T w wr p room mb mv N1 N2 u f l us fs lf tk vl) (hn : N2 ≤ 1000) {k x : Int} (hk : (Lit.int .i64 k).wf = true) (hx : (Lit.int .i64 x).wf = true) :
    ∃ w', (Instr.mapUpdate 56 (.map (some mv)) (.int .i64 k) (.int .i64 x)).run Try.prog wr = .ok () w' ∧ PlS T w w' p room mb mv N1 (N2 + 1) u f l us fs lf tk (fun j => if j = k then x else vl j) ∧ Kp wr w' := by
  obtain ⟨w', h1, h2, h3⟩ := h.vlm.upd (by unfold maxLen; omega) hk hx
  exact ⟨w', h1, h.vlU h2 h3, h.kpV h3⟩
end
end Go.Proofs.Ytfmoagdhajfngaa
