/- A region that draws its order: loads are taken first up to one operation that waits for them; behind it their cells may turn. -/
import Derived.OrdersHeld
import Derived.WalkKit
namespace Go.My
set_option linter.unusedVariables false
section
variable {P : Program} {ops : Array Oper} {Q : Exit → Act → World → Prop} {md : Region.Mode} {S : World → Prop}

/-- What has come up waits for nothing that hasn't. -/
def Shut (md : Region.Mode) (ops : Array Oper) (listed : Array Bool) : Prop :=
  ∀ k ok, ops[k]? = some ok → listed.getD k false = true → ∀ e ∈ ok.after, Region.binds md e = true → listed.getD e.on false = true
def shutB (md : Region.Mode) (ops : Array Oper) (listed : Array Bool) : Bool :=
  (List.range ops.size).all fun k => match ops[k]? with
    | none => true
    | some ok => !listed.getD k false || ok.after.all fun e => !Region.binds md e || listed.getD e.on false
theorem shut_of {listed : Array Bool} (h : shutB md ops listed = true) : Shut md ops listed := by
  intro k ok hk hl e he hb
  have hlt : k < ops.size := (Array.getElem?_eq_some_iff.1 hk).1
  have h1 := List.all_eq_true.1 h k (List.mem_range.2 hlt)
  simp only [hk, hl, Bool.not_true, Bool.false_or] at h1
  have h2 := Array.all_eq_true.1 h1
  obtain ⟨n, hn, rfl⟩ := Array.getElem_of_mem he
  have h3 := h2 n hn
  simpa [hb] using h3
theorem getD_set_t {listed : Array Bool} {j k : Nat} (h : listed.getD k false = true) : (listed.setIfInBounds j true).getD k false = true := by
  simp only [Array.getD_eq_getD_getElem?, Array.getElem?_setIfInBounds] at h ⊢
  split
  · split <;> simp_all
  · exact h
theorem Shut.next {listed : Array Bool} (h : Shut md ops listed) {j : Nat} (hj : j ∈ Region.ready md ops listed) : Shut md ops (listed.setIfInBounds j true) := by
  intro k ok hk hl e he hb
  by_cases hjk : j = k
  · subst hjk
    obtain ⟨_, o, ho, hall⟩ := mem_ready.1 hj
    rw [hk] at ho
    injection ho with ho
    subst ho
    exact getD_set_t (hall e he hb)
  · refine getD_set_t (h k ok hk ?_ e he hb)
    rw [getD_set_ne false hjk] at hl
    exact hl
/-- Operation k waits for i. -/
def waitsB (md : Region.Mode) (ops : Array Oper) (i : Nat) : Nat → Nat → Bool
  | 0, _ => false
  | f + 1, k => match ops[k]? with
    | none => false
    | some ok => ok.after.any fun e => Region.binds md e && (e.on == i || waitsB md ops i f e.on)
theorem waits_listed {i : Nat} {listed : Array Bool} (hs : Shut md ops listed) : ∀ f k, waitsB md ops i f k = true → (∀ ok, ops[k]? = some ok → ∀ e ∈ ok.after, Region.binds md e = true → listed.getD e.on false = true) → listed.getD i false = true := by
  intro f
  induction f with
  | zero => intro k h; simp [waitsB] at h
  | succ f ih =>
    intro k h hk
    unfold waitsB at h
    cases ho : ops[k]? with
    | none => simp [ho] at h
    | some ok =>
      simp only [ho] at h
      obtain ⟨n, hn, h2⟩ := Array.any_eq_true.1 h
      simp only [Bool.and_eq_true, Bool.or_eq_true, beq_iff_eq] at h2
      obtain ⟨hb, h3⟩ := h2
      have he := hk ok ho _ (Array.getElem_mem hn) hb
      rcases h3 with h3 | h3
      · rw [← h3]; exact he
      · exact ih _ h3 (fun ok2 ho2 e2 he2 hb2 => hs _ ok2 ho2 he e2 he2 hb2)

/-- Whatever order is picked: S holds behind each operation up to number m. -/
def wpUp (P : Program) (md : Region.Mode) (ops : Array Oper) (Q : Exit → Act → World → Prop) (S : World → Prop) (m : Nat) : Nat → Array Bool → Act → World → Prop
  | 0, listed, a, w => wpAny P md ops Q 0 listed a w
  | fuel + 1, listed, a, w =>
    (Region.ready md ops listed = [] → Q .normal a w) ∧
    ∀ i ∈ Region.ready md ops listed, wpOp P ops Q i (fun a' w' => if i = m then wpAny P md ops Q fuel (listed.setIfInBounds i true) a' w' else S w' ∧ wpUp P md ops Q S m fuel (listed.setIfInBounds i true) a' w') a w
theorem wpAny_of_up {m : Nat} : ∀ (fuel : Nat) (listed : Array Bool) (a : Act) (w : World), wpUp P md ops Q S m fuel listed a w → wpAny P md ops Q fuel listed a w
  | 0, _, _, _, h => h
  | fuel + 1, listed, _, _, h => ⟨h.1, fun i hi => wpOp_mono (fun a' w' h' => by
      by_cases him : i = m
      · rw [if_pos him] at h'; exact h'
      · rw [if_neg him] at h'; exact wpAny_of_up fuel _ a' w' h'.2) (h.2 i hi)⟩
theorem up_first {m i : Nat} {oi : Oper} {v : Value} (hi : ops[i]? = some oi) (hsel : ∀ (j : Nat) (o : Oper) cs b, ops[j]? = some o → o.op ≠ .select cs b)
    (hQ : ∀ c a w, Q (.panic c) (a.put oi.dst v) w → Q (.panic c) a w) (him : i ≠ m) {f : Nat} (hw : waitsB md ops i f m = true) :
    ∀ (fuel : Nat) (listed : Array Bool) (a : Act) (w : World), Shut md ops listed →
      (∀ j oj, ops[j]? = some oj → j ≠ i → listed.getD j true = false → (∀ e ∈ oj.after, Region.binds md e = true → e.on ≠ i) → oi.apart ops oj = true) →
      i ∈ Region.ready md ops listed → YieldsIf P ops S oi v a → S w →
      wpUp P md ops Q S m fuel (listed.setIfInBounds i true) (a.put oi.dst v) w → wpUp P md ops Q S m (fuel + 1) listed a w := by
  intro fuel
  induction fuel with
  | zero =>
    intro listed a w hsh _ hr hy hS H
    have H' : wpAny P md ops Q 0 (listed.setIfInBounds i true) (a.put oi.dst v) w := H
    refine ⟨fun h => (by rw [h] at hr; cases hr), fun j hj => ?_⟩
    by_cases hji : j = i
    · subst hji
      exact hy.wpOp hi hS (by rw [if_neg him]; exact ⟨hS, H⟩)
    · exfalso
      have h1 := ready_mono hj hji
      rw [H'.1] at h1
      cases h1
  | succ fuel ih =>
    intro listed a w hsh hfree hr hy hS H
    refine ⟨fun h => (by rw [h] at hr; cases hr), fun j hj => ?_⟩
    by_cases hji : j = i
    · subst hji
      exact hy.wpOp hi hS (by rw [if_neg him]; exact ⟨hS, H⟩)
    · have hun : listed.getD i true = false := (mem_ready.1 hr).1
      have hun2 : listed.getD i false = false := by
        simp only [Array.getD_eq_getD_getElem?] at hun ⊢
        cases hg : listed[i]? <;> simp_all
      have hjm : j ≠ m := by
        intro he
        subst he
        obtain ⟨_, o, ho, hall⟩ := mem_ready.1 hj
        have := waits_listed hsh f j hw (fun ok hok e he hb => by rw [ho] at hok; injection hok with hok; subst hok; exact hall e he hb)
        rw [hun2] at this
        cases this
      have h1 := H.2 j (ready_mono hj hji)
      obtain ⟨hjun, oj, hoj, hall⟩ := mem_ready.1 hj
      have hnot : ∀ e ∈ oj.after, Region.binds md e = true → e.on ≠ i := fun e he hb heq => by
        have h2 := hall e he hb
        rw [heq, hun2] at h2
        cases h2
      have h2 := wpOp_putIf hoj (hfree j oj hoj hji hjun hnot) (fun cs b => hsel i oi cs b hi) (fun cs b => hsel j oj cs b hoj) hQ hy h1
      have hfree' : ∀ k ok, ops[k]? = some ok → k ≠ i → (listed.setIfInBounds j true).getD k true = false →
          (∀ e ∈ ok.after, Region.binds md e = true → e.on ≠ i) → oi.apart ops ok = true := fun k ok hk hki hun3 hno => by
        refine hfree k ok hk hki ?_ hno
        by_cases hjk : j = k
        · subst hjk; exact hjun
        · rw [getD_set_ne true hjk] at hun3; exact hun3
      refine wpOp_mono (fun a' w' h3 => ?_) h2
      rw [if_neg hjm]
      have h4 := h3.2
      rw [if_neg hjm] at h4
      refine ⟨h4.1, ih (listed.setIfInBounds j true) a' w' (hsh.next hj) hfree' (ready_mono hr (Ne.symm hji)) h3.1 h4.1 ?_⟩
      rw [Array.setIfInBounds_comm _ _ hji]
      exact h4.2
theorem wpUp_take {m i : Nat} {oi : Oper} {v : Value} {fuel : Nat} {listed : Array Bool} {a : Act} {w : World} (f : Nat) (hi : ops[i]? = some oi)
    (hs : Region.noSelect ops = true) (hf : Region.free md ops listed i = true) (hr : (Region.ready md ops listed).contains i = true) (hsh : shutB md ops listed = true) (him : (i == m) = false) (hw : waitsB md ops i f m = true)
    (hQ : ∀ c a w, Q (.panic c) (a.put oi.dst v) w → Q (.panic c) a w) (hy : YieldsIf P ops S oi v a) (hS : S w)
    (h : wpUp P md ops Q S m fuel (listed.setIfInBounds i true) (a.put oi.dst v) w) : wpUp P md ops Q S m (fuel + 1) listed a w :=
  up_first hi (Region.noSelect_spec hs) hQ (by simpa using him) hw fuel listed a w (shut_of hsh) (Region.free_spec hi hf) (by simpa using hr) hy hS h
/-- Whichever comes up, before m. -/
theorem wpUp_all {m : Nat} {rs : List Nat} {fuel : Nat} {listed : Array Bool} {a : Act} {w : World} (hr : Region.ready md ops listed = rs) (hne : rs ≠ [])
    (h : ∀ i ∈ rs, wpOp P ops Q i (fun a' w' => if i = m then wpAny P md ops Q fuel (listed.setIfInBounds i true) a' w' else S w' ∧ wpUp P md ops Q S m fuel (listed.setIfInBounds i true) a' w') a w) : wpUp P md ops Q S m (fuel + 1) listed a w :=
  ⟨fun h0 => absurd (hr ▸ h0) hne, hr ▸ h⟩
/-- An operation that comes up. -/
theorem wpOp_by {i : Nat} {o : Oper} {a : Act} {w : World} {K : Act → World → Prop} (ho : ops[i]? = some o) (h : ∀ K' : Act → World → Prop, (∀ a w, K a w → K' a w) → if Region.wanted o (yielded ops a.tmps) = true then Oper.wp P o a w K' Q else K' (a.put o.dst undef) w) : wpOp P ops Q i K a w :=
  wpOp_step ho h
end
end Go.My
