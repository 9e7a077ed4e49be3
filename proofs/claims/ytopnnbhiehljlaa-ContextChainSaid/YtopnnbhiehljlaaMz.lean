/- A region that draws its order, walked in one order of ours: kinds 1 (a read, a call that leaves old memory as it is), 2 (hangs on no world), 0 (lays memory, its value hangs on the world), 3 (turns memory: all of kind 1 ahead of it are waited for). -/
import Derived.Test.YtopnnbhiehljlaaMy
namespace Go.My
set_option linter.unusedVariables false
open Go.RowKit

section
variable {P : Program} {ops : Array Oper} {md : Region.Mode} {Q : Exit → Act → World → Prop}

def quietW (P : Program) (o : Oper) (a : Act) (v : Value) : Prop := ∀ w, (execOp a.eval o).run P w = .ok (.value v) w
def YieldsW (P : Program) (ops : Array Oper) (o : Oper) (v : Value) (a : Act) : Prop :=
  (Region.wanted o (yielded ops a.tmps) = true ∧ quietW P o a v) ∨ (Region.wanted o (yielded ops a.tmps) = false ∧ v = undef)
theorem YieldsW.wpOp {i : Nat} {o : Oper} {v : Value} {a : Act} (hi : ops[i]? = some o) (hy : YieldsW P ops o v a) {K : Act → World → Prop} {w : World} (h : K (a.put o.dst v) w) : wpOp P ops Q i K a w := by
  unfold Go.wpOp
  simp only [hi]
  rcases hy with ⟨hw, hv⟩ | ⟨hw, rfl⟩
  · simp only [hw, if_true, Oper.wp, hv w, Oper.upon]; exact .inl h
  · simp only [hw, Bool.false_eq_true, if_false]; exact h
theorem YieldsW.of_same {o : Oper} {v : Value} {a a' : Act} (hy : YieldsW P ops o v a) (he : execOp a'.eval o = execOp a.eval o)
    (hw : Region.wanted o (yielded ops a'.tmps) = Region.wanted o (yielded ops a.tmps)) : YieldsW P ops o v a' := by
  unfold YieldsW quietW at *
  rw [he, hw]
  exact hy
theorem wpOp_putW {j : Nat} {oi oj : Oper} {v : Value} (hj : ops[j]? = some oj) (hap : oi.apart ops oj = true)
    (hsi : ∀ cs b, oi.op ≠ .select cs b) (hsj : ∀ cs b, oj.op ≠ .select cs b)
    (hQ : ∀ c d u a w, Q (.panic c) (Act.put a d u) w → Q (.panic c) a w) {K : Act → World → Prop} {a : Act} {w : World}
    (hy : YieldsW P ops oi v a) (h : wpOp P ops Q j K (a.put oi.dst v) w) :
    wpOp P ops Q j (fun a' w' => YieldsW P ops oi v a' ∧ K (a'.put oi.dst v) w') a w := by
  obtain ⟨h1, h2, h3⟩ := Oper.apart_spec hap
  have keep : ∀ (a : Act), YieldsW P ops oi v a → ∀ u, YieldsW P ops oi v (a.put oj.dst u) := fun a hy u =>
    hy.of_same (execOp_put oi hsi a oj.dst u h3) (wanted_put oi a oj.dst u h3)
  have keepD : ∀ d, YieldsW P ops oi v { a with defers := d :: a.defers } := fun d => hy.of_same rfl rfl
  unfold wpOp at *
  simp only [hj] at *
  rw [wanted_put oj a oi.dst v h1] at h
  split
  · rename_i hw
    simp only [hw, if_true] at h
    rcases h with h | ⟨hasks, hlets⟩
    case inr => exact .inr ⟨by unfold Oper.asks at *; rw [execOp_put oj hsj a oi.dst v h1] at hasks; exact hasks, hlets⟩
    refine .inl ?_
    unfold Oper.wp at *
    rw [execOp_put oj hsj a oi.dst v h1] at h
    generalize (execOp a.eval oj).run P w = r at *
    cases r with
    | ok n w' =>
      cases n <;> simp only [Oper.upon] at h ⊢
      case value u => exact ⟨keep a hy u, by rw [← Act.put_comm a v u h2]; exact h⟩
      case skip => exact ⟨keep a hy _, by rw [← Act.put_comm a v undef h2]; exact h⟩
      case defer d =>
        refine ⟨keep _ (keepD d) _, ?_⟩
        rw [← Act.put_comm _ v undef h2, ← Act.put_defers]
        exact h
      case enter f args =>
        refine Calls.mono h fun e w'' he => ?_
        cases e with
        | returned u => exact ⟨keep a hy u, by rw [← Act.put_comm a v u h2]; exact he⟩
        | panicked c => exact hQ _ _ _ _ _ he
        | outgrown => exact he
      case row row args => exact Rows.mono h fun u w'' he => ⟨keep a hy u, by rw [← Act.put_comm a v u h2]; exact he⟩
    | halt x w' =>
      cases x <;> simp only [Oper.upon] at h ⊢
      case panic u => exact hQ _ _ _ _ _ h
  · rename_i hw
    simp only [hw] at h
    exact ⟨keep a hy _, by rw [← Act.put_comm a v undef h2]; exact h⟩

def wpAnyM (P : Program) (md : Region.Mode) (ops : Array Oper) (Q : Exit → Act → World → Prop) (L : Act → World → Prop) (tl : List Nat) : Nat → Array Bool → Act → World → Prop
  | 0, listed, a, w => Region.ready md ops listed = [] ∧ L a w
  | f + 1, listed, a, w =>
    (Region.ready md ops listed = [] → L a w) ∧ ∀ i ∈ Region.ready md ops listed,
      wpOp P ops Q i (fun a' w' => (i ∉ tl → Fr NoF w w') ∧ ∀ w'', Fr NoF w' w'' → wpAnyM P md ops Q L tl f (listed.setIfInBounds i true) a' w'') a w
theorem wpAny_of_M {Q' : Exit → Act → World → Prop} (hq : ∀ e a w, Q e a w → Q' e a w) {L : Act → World → Prop} {tl : List Nat} (hL : ∀ a w, L a w → Q' .normal a w) :
    ∀ (f : Nat) (listed : Array Bool) (a : Act) (w : World), wpAnyM P md ops Q L tl f listed a w → wpAny P md ops Q' f listed a w
  | 0, listed, a, w, h => ⟨h.1, hL _ _ h.2⟩
  | f + 1, listed, a, w, h => ⟨fun h0 => hL _ _ (h.1 h0), fun i hi => wpOp_mono (fun a' w' h' => wpAny_of_M hq hL f _ a' w' (h'.2 w' (Fr.refl _ _))) (wpOp_monoQ hq (h.2 i hi))⟩
theorem wpAnyM_firstW {L : Act → World → Prop} {tl : List Nat} {i : Nat} {oi : Oper} {v : Value} (hi : ops[i]? = some oi) (hsel : ∀ (j : Nat) (o : Oper) cs b, ops[j]? = some o → o.op ≠ .select cs b)
    (hQ : ∀ c d u a w, Q (.panic c) (Act.put a d u) w → Q (.panic c) a w) :
    ∀ (f : Nat) (listed : Array Bool) (a : Act) (w : World),
      (∀ j oj, ops[j]? = some oj → j ≠ i → listed.getD j true = false → (∀ e ∈ oj.after, Region.binds md e = true → e.on ≠ i) → oi.apart ops oj = true) →
      i ∈ Region.ready md ops listed → YieldsW P ops oi v a →
      (i ∉ tl) → (∀ w'', Fr NoF w w'' → wpAnyM P md ops Q L tl f (listed.setIfInBounds i true) (a.put oi.dst v) w'') → wpAnyM P md ops Q L tl (f + 1) listed a w := by
  intro f
  induction f with
  | zero =>
    intro listed a w _ hr hy hnt H
    refine ⟨fun h => (by rw [h] at hr; cases hr), fun j hj => ?_⟩
    by_cases hji : j = i
    · subst hji; exact hy.wpOp hi ⟨fun _ => Fr.refl _ _, H⟩
    · have h0 := (H w (Fr.refl _ _)).1
      have := ready_mono hj hji
      rw [h0] at this
      cases this
  | succ f ih =>
    intro listed a w hfree hr hy hnt H
    have hun := (mem_ready.1 hr).1
    refine ⟨fun h => (by rw [h] at hr; cases hr), fun j hj => ?_⟩
    by_cases hji : j = i
    · subst hji; exact hy.wpOp hi ⟨fun _ => Fr.refl _ _, H⟩
    · obtain ⟨hjun, oj, hoj, hall⟩ := mem_ready.1 hj
      have hnot : ∀ e ∈ oj.after, Region.binds md e = true → e.on ≠ i := fun e he hb heq => by
        have h1 := hall e he hb
        rw [heq, getD_both hun] at h1
        cases h1
      have hap := hfree j oj hoj hji hjun hnot
      have hfree' : ∀ k ok, ops[k]? = some ok → k ≠ i → (listed.setIfInBounds j true).getD k true = false →
          (∀ e ∈ ok.after, Region.binds md e = true → e.on ≠ i) → oi.apart ops ok = true := fun k ok hk hki hun hno => by
        refine hfree k ok hk hki ?_ hno
        by_cases hjk : j = k
        · subst hjk; exact hjun
        · rw [getD_set_ne true hjk] at hun; exact hun
      have h1 := (H w (Fr.refl _ _)).2 j (ready_mono hj hji)
      have h2 := wpOp_putW hoj hap (fun cs b => hsel i oi cs b hi) (fun cs b => hsel j oj cs b hoj) hQ hy h1
      refine wpOp_mono (fun a' w' h3 => ⟨h3.2.1, fun w'' hw'' => ?_⟩) h2
      refine ih (listed.setIfInBounds j true) a' w'' hfree' (ready_mono hr (Ne.symm hji)) h3.1 hnt (fun w3 hw3 => ?_)
      rw [Array.setIfInBounds_comm _ _ hji]
      exact h3.2.2 w3 (hw''.trans hw3 (fun _ h => .inl h))
theorem wpAnyM_firstF {L : Act → World → Prop} {tl : List Nat} {i : Nat} {oi : Oper} {v : Value} (hi : ops[i]? = some oi) (hsel : ∀ (j : Nat) (o : Oper) cs b, ops[j]? = some o → o.op ≠ .select cs b)
    (hQ : ∀ c d u a w, Q (.panic c) (Act.put a d u) w → Q (.panic c) a w) (hin : i ∉ tl) :
    ∀ (f : Nat) (listed : Array Bool) (a : Act) (w0 : World), HeadI md ops [] listed → (∀ t ∈ tl, listed.getD t true = false → i ∈ reach md ops ops.size (depsOf md ops t)) →
      (∀ j oj, ops[j]? = some oj → j ≠ i → listed.getD j true = false → (∀ e ∈ oj.after, Region.binds md e = true → e.on ≠ i) → oi.apart ops oj = true) →
      i ∈ Region.ready md ops listed → YieldsF P ops w0 oi v a →
      (∀ w, Fr NoF w0 w → wpAnyM P md ops Q L tl f (listed.setIfInBounds i true) (a.put oi.dst v) w) → ∀ w, Fr NoF w0 w → wpAnyM P md ops Q L tl (f + 1) listed a w := by
  intro f
  induction f with
  | zero =>
    intro listed a w0 inv hwt _ hr hy H w hw
    refine ⟨fun h => (by rw [h] at hr; cases hr), fun j hj => ?_⟩
    by_cases hji : j = i
    · subst hji; exact hy.wpOp hi hw (fun w' hf => ⟨fun _ => hf, fun w'' hf2 => H w'' ((hw.trans hf (fun _ h => .inl h)).trans hf2 (fun _ h => .inl h))⟩)
    · have h0 := (H w hw).1
      have := ready_mono hj hji
      rw [h0] at this
      cases this
  | succ f ih =>
    intro listed a w0 inv hwt hfree hr hy H w hw
    have hun := (mem_ready.1 hr).1
    refine ⟨fun h => (by rw [h] at hr; cases hr), fun j hj => ?_⟩
    by_cases hji : j = i
    · subst hji; exact hy.wpOp hi hw (fun w' hf => ⟨fun _ => hf, fun w'' hf2 => H w'' ((hw.trans hf (fun _ h => .inl h)).trans hf2 (fun _ h => .inl h))⟩)
    · obtain ⟨hjun, oj, hoj, hall⟩ := mem_ready.1 hj
      have hjt : j ∉ tl := fun hjt => by
        have h1 := hwt j hjt hjun
        have h2 := reach_listed inv ops.size (depsOf md ops j) (fun k hk => by
          unfold depsOf at hk
          rw [hoj] at hk
          obtain ⟨e, he, h⟩ := List.mem_filterMap.1 hk
          split at h
          · next hb => obtain rfl : e.on = k := by simpa using h
                       exact hall e (by simpa using he) hb
          · cases h) i h1
        rw [getD_both hun] at h2
        cases h2
      have hnot : ∀ e ∈ oj.after, Region.binds md e = true → e.on ≠ i := fun e he hb heq => by
        have h1 := hall e he hb
        rw [heq, getD_both hun] at h1
        cases h1
      have h1 := (H w hw).2 j (ready_mono hj hji)
      have h2 := wpOp_putF hoj (hfree j oj hoj hji hjun hnot) (fun cs b => hsel i oi cs b hi) (fun cs b => hsel j oj cs b hoj) hQ hy h1
      have hfree' : ∀ k ok, ops[k]? = some ok → k ≠ i → (listed.setIfInBounds j true).getD k true = false →
          (∀ e ∈ ok.after, Region.binds md e = true → e.on ≠ i) → oi.apart ops ok = true := fun k ok hk hki hun hno => by
        refine hfree k ok hk hki ?_ hno
        by_cases hjk : j = k
        · subst hjk; exact hjun
        · rw [getD_set_ne true hjk] at hun; exact hun
      refine wpOp_mono (fun a' w' h3 => ⟨h3.2.1, ?_⟩) h2
      refine ih (listed.setIfInBounds j true) a' w' (inv.set hj (by simp)) (fun t ht hut => hwt t ht ?_) hfree' (ready_mono hr (Ne.symm hji)) (h3.1.later (hw.trans (h3.2.1 hjt) (fun _ h => .inl h))) ?_
      · by_cases hjk : j = t
        · subst hjk; exact absurd ht hjt
        · rw [getD_set_ne true hjk] at hut; exact hut
      · rw [Array.setIfInBounds_comm _ _ hji]
        exact h3.2.2

/-- The walk in our order. -/
def wpMiz (P : Program) (ops : Array Oper) (Q : Exit → Act → World → Prop) (L : Act → World → Prop) : List (Oper × Nat) → Act → World → Prop
  | [], a, w0 => ∀ w, Fr NoF w0 w → L a w
  | (o, b) :: plan, a, w0 =>
      if Region.wanted o (yielded ops a.tmps) = true then
        (if b = 1 then ∃ v, (∀ w, Fr NoF w0 w → quietF P o a w v) ∧ wpMiz P ops Q L plan (a.put o.dst v) w0
         else if b = 2 then ∃ v, quietW P o a v ∧ wpMiz P ops Q L plan (a.put o.dst v) w0
         else ∀ w, Fr NoF w0 w → o.wp P a w (fun a' w' => (b = 0 → Fr NoF w w') ∧ wpMiz P ops Q L plan a' w') Q)
      else wpMiz P ops Q L plan (a.put o.dst undef) w0
def planZ (l : List Oper) : List (Nat × Nat) → List (Oper × Nat)
  | [] => []
  | (i, b) :: plan => match l[i]? with
    | some o => (o, b) :: planZ l plan
    | none => planZ l plan
def mizB (md : Region.Mode) (ops : Array Oper) (tl : List Nat) : List (Nat × Nat) → Array Bool → Bool
  | [], listed => (Region.ready md ops listed).isEmpty
  | (i, b) :: plan, listed => (Region.ready md ops listed).contains i &&
      (if b = 1 then Region.free md ops listed i && !tl.contains i && tl.all fun t => listed.getD t true || (reach md ops ops.size (depsOf md ops t)).contains i
       else if b = 2 then Region.free md ops listed i && !tl.contains i
       else decide (Region.ready md ops listed = [i]) && (tl.contains i == !(b == 0))) && mizB md ops tl plan (listed.setIfInBounds i true)
def tailsOf (plan : List (Nat × Nat)) : List Nat := plan.filterMap fun x => if x.2 = 3 then some x.1 else none

theorem miz_lex {l : List Oper} {tl : List Nat} {L : Act → World → Prop} (hops : ops = l.toArray) (hsel : Region.noSelect ops = true) (hQ : ∀ c d u a w, Q (.panic c) (Act.put a d u) w → Q (.panic c) a w) :
    ∀ (plan : List (Nat × Nat)) (listed : Array Bool) (a : Act) (w0 : World), HeadI md ops [] listed → mizB md ops tl plan listed = true → wpMiz P ops Q L (planZ l plan) a w0 →
      ∀ w, Fr NoF w0 w → wpAnyM P md ops Q L tl plan.length listed a w
  | [], listed, a, w0, inv, hB, h, w, hw => ⟨by simpa [mizB] using hB, h w hw⟩
  | (i, b) :: plan, listed, a, w0, inv, hB, h, w, hw => by
    simp only [mizB, Bool.and_eq_true] at hB
    obtain ⟨⟨hr, hf⟩, hB'⟩ := hB
    have hr' : i ∈ Region.ready md ops listed := by simpa using hr
    obtain ⟨hun, o, ho, hall⟩ := mem_ready.1 hr'
    have ho' : l[i]? = some o := by rw [hops] at ho; simpa using ho
    have inv' : HeadI md ops [] (listed.setIfInBounds i true) := inv.set hr' (by simp)
    simp only [planZ, ho', wpMiz] at h
    by_cases b1 : b = 1
    · rw [if_pos b1] at hf h
      simp only [Bool.and_eq_true] at hf
      obtain ⟨⟨hf, hnt⟩, hwt⟩ := hf
      have hex : ∃ v, YieldsF P ops w0 o v a ∧ wpMiz P ops Q L (planZ l plan) (a.put o.dst v) w0 := by
        by_cases hwn : Region.wanted o (yielded ops a.tmps) = true
        · rw [if_pos hwn] at h
          obtain ⟨v, h1, h2⟩ := h
          exact ⟨v, .inl ⟨hwn, h1⟩, h2⟩
        · rw [if_neg hwn] at h
          exact ⟨undef, .inr ⟨by simpa using hwn, rfl⟩, h⟩
      obtain ⟨v, hy, hK⟩ := hex
      refine wpAnyM_firstF ho (Region.noSelect_spec hsel) hQ (by simpa using hnt) plan.length listed a w0 inv (fun t ht hut => ?_) (Region.free_spec ho hf) hr' hy
        (fun w1 hw1 => miz_lex hops hsel hQ plan _ _ _ inv' hB' hK w1 hw1) w hw
      have := List.all_eq_true.1 hwt t ht
      rw [hut, Bool.false_or] at this
      simpa using this
    · rw [if_neg b1] at hf h
      by_cases b2 : b = 2
      · rw [if_pos b2] at hf h
        simp only [Bool.and_eq_true] at hf
        obtain ⟨hf, hnt⟩ := hf
        have hex : ∃ v, YieldsW P ops o v a ∧ wpMiz P ops Q L (planZ l plan) (a.put o.dst v) w0 := by
          by_cases hwn : Region.wanted o (yielded ops a.tmps) = true
          · rw [if_pos hwn] at h
            obtain ⟨v, h1, h2⟩ := h
            exact ⟨v, .inl ⟨hwn, h1⟩, h2⟩
          · rw [if_neg hwn] at h
            exact ⟨undef, .inr ⟨by simpa using hwn, rfl⟩, h⟩
        obtain ⟨v, hy, hK⟩ := hex
        exact wpAnyM_firstW ho (Region.noSelect_spec hsel) hQ plan.length listed a w (Region.free_spec ho hf) hr' hy (by simpa using hnt)
          (fun w1 hw1 => miz_lex hops hsel hQ plan _ _ _ inv' hB' hK w1 (hw.trans hw1 (fun _ h => .inl h)))
      · rw [if_neg b2] at hf h
        simp only [Bool.and_eq_true, decide_eq_true_eq] at hf
        obtain ⟨hf, hk⟩ := hf
        refine ⟨fun h0 => (by rw [h0] at hr'; cases hr'), fun j hj => ?_⟩
        rw [hf] at hj
        obtain rfl : j = i := by simpa using hj
        unfold wpOp
        simp only [ho]
        by_cases hwn : Region.wanted o (yielded ops a.tmps) = true
        · rw [if_pos hwn] at h ⊢
          refine .inl (Oper.wp_mono (fun a' w' h' => ⟨fun hnt => h'.1 ?_, fun w'' hf2 => miz_lex hops hsel hQ plan _ _ _ inv' hB' h'.2 w'' hf2⟩) (h w hw))
          by_cases b0 : b = 0
          · exact b0
          · have : tl.contains j = true := by rw [beq_iff_eq] at hk; rw [hk]; simp [b0]
            exact absurd (by simpa using this) hnt
        · rw [if_neg hwn] at h ⊢
          exact ⟨fun _ => Fr.refl _ _, fun w'' hf2 => miz_lex hops hsel hQ plan _ _ _ inv' hB' h w'' (hw.trans hf2 (fun _ h => .inl h))⟩

theorem wp_region_plan {id : Nat} {a : Act} {w : World} {l : List Oper} (plan : List (Nat × Nat)) (hm : P.follows .mixedOrders = true)
    (hB : (Region.noSelect l.toArray && decide (plan.length = l.toArray.size) && mizB .any l.toArray (tailsOf plan) plan (Array.replicate l.toArray.size false)) = true)
    (h : wpMiz P l.toArray (NoPanic Q) (fun a' w' => Q .normal a' w') (planZ l plan) a w.drew) : (Code.region id l.toArray true).wp P Q a w := by
  simp only [Bool.and_eq_true, decide_eq_true_eq] at hB
  obtain ⟨⟨hsel, hlen⟩, hB⟩ := hB
  have inv0 : HeadI .any l.toArray [] (Array.replicate l.toArray.size false) :=
    ⟨by simp, fun j oj _ hl => (by rw [getD_replicate_false] at hl; cases hl), fun t ht => absurd ht (by simp)⟩
  have H := miz_lex (md := .any) (Q := NoPanic Q) (L := fun a' w' => Q .normal a' w') rfl hsel (fun _ _ _ _ _ h => h) plan _ a w.drew inv0 hB h w.drew (Fr.refl _ _)
  refine wp_region_any hm ?_
  have := wpAny_of_M (Q := NoPanic Q) (Q' := Q) NoPanic.imp (fun a w h => h) _ _ _ _ H
  rwa [hlen] at this

/-! ### The steps -/
variable {L : Act → World → Prop} {plan : List (Oper × Nat)} {o : Oper} {a : Act} {w0 : World} {b : Nat}
theorem miz_skip (hw : Region.wanted o (yielded ops a.tmps) = false) (h : wpMiz P ops Q L plan (a.put o.dst undef) w0) : wpMiz P ops Q L ((o, b) :: plan) a w0 := by
  unfold wpMiz
  rw [if_neg (by rw [hw]; exact Bool.false_ne_true)]
  exact h
theorem miz_step (hw : Region.wanted o (yielded ops a.tmps) = true) (h : ∃ v, (∀ u : InW (Fr NoF w0), quietF P o a u.to v) ∧ wpMiz P ops Q L plan (a.put o.dst v) w0) : wpMiz P ops Q L ((o, 1) :: plan) a w0 := by
  obtain ⟨v, hq, h⟩ := h
  unfold wpMiz
  rw [if_pos hw, if_pos rfl]
  exact ⟨v, fun w hf => hq ⟨w, hf⟩, h⟩
theorem miz_free (hw : Region.wanted o (yielded ops a.tmps) = true) (h : ∃ v, quietW P o a v ∧ wpMiz P ops Q L plan (a.put o.dst v) w0) : wpMiz P ops Q L ((o, 2) :: plan) a w0 := by
  unfold wpMiz
  rw [if_pos hw, if_neg (by decide), if_pos rfl]
  exact h
theorem miz_loud (hw : Region.wanted o (yielded ops a.tmps) = true)
    (h : ∀ (w : World), Fr NoF w0 w → ∀ K : Act → World → Prop, Hid (∀ a' w', Fr NoF w w' → wpMiz P ops Q L plan a' w' → K a' w') → o.wp P a w K Q) : wpMiz P ops Q L ((o, 0) :: plan) a w0 := by
  unfold wpMiz
  rw [if_pos hw, if_neg (by decide), if_neg (by decide)]
  exact fun w hf => h w hf _ (Lib.hid (fun a' w' h1 h2 => ⟨fun _ => h1, h2⟩))
theorem miz_turn (hw : Region.wanted o (yielded ops a.tmps) = true)
    (h : ∀ (w : World), Fr NoF w0 w → ∀ K : Act → World → Prop, Hid (∀ a' w', wpMiz P ops Q L plan a' w' → K a' w') → o.wp P a w K Q) : wpMiz P ops Q L ((o, 3) :: plan) a w0 := by
  unfold wpMiz
  rw [if_pos hw, if_neg (by decide), if_neg (by decide)]
  exact fun w hf => h w hf _ (Lib.hid (fun a' w' h2 => ⟨fun h => absurd h (by decide), h2⟩))
theorem miz_nil (h : ∀ w, Fr NoF w0 w → L a w) : wpMiz P ops Q L [] a w0 := h
/-- An append whose run is known. -/
theorem op_append {P : Program} {Q : Exit → Act → World → Prop} {K : Act → World → Prop} {o : Oper} {a : Act} {w : World} (s x : Operand) (t : TypeId) (ho : o.op = .call { callee := .builtin .append, args := #[s, x], argTypes := #[t, t] }) {v : Value} {w' : World}
    (hr : (Builtin.append_ #[t, t] o.type #[a.eval s, a.eval x]).run P w = .ok v w') (h : K (a.put o.dst v) w') : Oper.wp P o a w K Q := by
  unfold Oper.wp execOp
  simp only [ho, resolve, invoke, builtin, Sem.run_bind, Sem.run_pure, Result.andThen_ok, List.map_toArray, List.map_cons, List.map_nil, hr]
  exact h
theorem wpList_append_run {P : Program} {ops : Array Oper} {Q : Exit → Act → World → Prop} {rest : List Oper} {o : Oper} {a : Act} {w : World} (hgd : o.guard = none) (s x : Operand) (t : TypeId) (ho : o.op = .call { callee := .builtin .append, args := #[s, x], argTypes := #[t, t] }) {v : Value} {w' : World}
    (hr : (Builtin.append_ #[t, t] o.type #[a.eval s, a.eval x]).run P w = .ok v w') (h : wpList P ops Q rest (a.put o.dst v) w') : wpList P ops Q (o :: rest) a w :=
  wpList_plain hgd fun K hK => op_append s x t ho hr (hK _ _ h)
end
end Go.My
