/- As Mx, with a tail of any numbers: all that comes ahead of it is waited for. -/
import Derived.Test.YtopnnbhiehljlaaMx
namespace Go.My
set_option linter.unusedVariables false
open Go.RowKit

section
variable {P : Program} {ops : Array Oper} {md : Region.Mode} {Q : Exit → Act → World → Prop}

def depsOf (md : Region.Mode) (ops : Array Oper) (t : Nat) : List Nat :=
  match ops[t]? with
  | some o => o.after.toList.filterMap fun e => if Region.binds md e then some e.on else none
  | none => []
/-- What is waited for, through so many. -/
def reach (md : Region.Mode) (ops : Array Oper) : Nat → List Nat → List Nat
  | 0, s => s
  | f + 1, s => reach md ops f (s ++ (s.flatMap (depsOf md ops)).filter fun i => !s.contains i)
structure HeadI (md : Region.Mode) (ops : Array Oper) (tl : List Nat) (listed : Array Bool) : Prop where
  size : listed.size = ops.size
  closed : ∀ j oj, ops[j]? = some oj → listed.getD j false = true → ∀ e ∈ oj.after, Region.binds md e = true → listed.getD e.on false = true
  tail : ∀ t ∈ tl, t < ops.size → listed.getD t true = false
theorem deps_listed {tl : List Nat} {listed : Array Bool} (inv : HeadI md ops tl listed) {j : Nat} (hj : listed.getD j false = true) : ∀ i ∈ depsOf md ops j, listed.getD i false = true := by
  intro i hi
  unfold depsOf at hi
  split at hi
  · next o ho =>
    obtain ⟨e, he, h⟩ := List.mem_filterMap.1 hi
    split at h
    · next hb => obtain rfl : e.on = i := by simpa using h
                 exact inv.closed j o ho hj e (by simpa using he) hb
    · cases h
  · cases hi
theorem reach_listed {tl : List Nat} {listed : Array Bool} (inv : HeadI md ops tl listed) : ∀ (f : Nat) (s : List Nat), (∀ i ∈ s, listed.getD i false = true) → ∀ i ∈ reach md ops f s, listed.getD i false = true
  | 0, s, h => h
  | f + 1, s, h => by
    refine reach_listed inv f _ (fun i hi => ?_)
    rcases List.mem_append.1 hi with h1 | h1
    · exact h i h1
    · obtain ⟨h2, _⟩ := List.mem_filter.1 h1
      obtain ⟨j, hj, h3⟩ := List.mem_flatMap.1 h2
      exact deps_listed inv (h j hj) i h3
def waitB (md : Region.Mode) (ops : Array Oper) (hd tl : List Nat) : Bool := tl.all fun t => hd.all fun i => (reach md ops hd.length (depsOf md ops t)).contains i
theorem wait_of {hd tl : List Nat} (hB : waitB md ops hd tl = true) {listed : Array Bool} (inv : HeadI md ops tl listed) {i : Nat} (hi : i ∈ hd) (hun : listed.getD i true = false) : ∀ t ∈ tl, t ∉ Region.ready md ops listed := by
  intro t ht hr
  obtain ⟨_, ot, hot, hall⟩ := mem_ready.1 hr
  have h1 := List.all_eq_true.1 (List.all_eq_true.1 hB t ht) i hi
  have h2 := reach_listed inv hd.length (depsOf md ops t) (fun j hj => by
    unfold depsOf at hj
    rw [hot] at hj
    obtain ⟨e, he, h⟩ := List.mem_filterMap.1 hj
    split at h
    · next hb => obtain rfl : e.on = j := by simpa using h
                 exact hall e (by simpa using he) hb
    · cases h) i (by simpa using h1)
  rw [getD_both hun] at h2
  cases h2
theorem HeadI.set {tl : List Nat} {i : Nat} {listed : Array Bool} (inv : HeadI md ops tl listed) (hi : i ∈ Region.ready md ops listed) (hin : i ∉ tl) : HeadI md ops tl (listed.setIfInBounds i true) := by
  obtain ⟨_, oi, hoi, hall⟩ := mem_ready.1 hi
  refine ⟨by simp [inv.size], fun j oj hj hl e he hb => ?_, fun t ht ht' => by rw [getD_set_ne true (fun (e : i = t) => hin (by rw [e]; exact ht))]; exact inv.tail t ht ht'⟩
  by_cases hij : i = j
  · subst hij
    have : oj = oi := Option.some.inj (hj.symm.trans hoi)
    subst this
    exact getD_set_true (hall e he hb)
  · rw [getD_set_ne false hij] at hl
    exact getD_set_true (inv.closed j oj hj hl e he hb)

def wpAnyT (P : Program) (md : Region.Mode) (ops : Array Oper) (Q : Exit → Act → World → Prop) (hd : List Nat) (L : Array Bool → Act → World → Prop) : Nat → Array Bool → Act → World → Prop
  | 0, listed, a, w => L listed a w
  | f + 1, listed, a, w =>
    Region.ready md ops listed ≠ [] ∧ ∀ i ∈ Region.ready md ops listed, i ∈ hd ∧ wpOp P ops Q i (fun a' w' => Fr NoF w w' ∧ ∀ w'', Fr NoF w' w'' → wpAnyT P md ops Q hd L f (listed.setIfInBounds i true) a' w'') a w
theorem wpAny_of_T {Q' : Exit → Act → World → Prop} (hq : ∀ e a w, Q e a w → Q' e a w) {hd : List Nat} {g : Nat} {L : Array Bool → Act → World → Prop} (hL : ∀ listed a w, L listed a w → wpAny P md ops Q' g listed a w) :
    ∀ (f : Nat) (listed : Array Bool) (a : Act) (w : World), wpAnyT P md ops Q hd L f listed a w → wpAny P md ops Q' (f + g) listed a w
  | 0, listed, a, w, h => by rw [Nat.zero_add]; exact hL _ _ _ h
  | f + 1, listed, a, w, h => by
    rw [show f + 1 + g = (f + g) + 1 by omega]
    exact ⟨fun h0 => absurd h0 h.1, fun i hi => wpOp_mono (fun a' w' h' => wpAny_of_T hq hL f _ a' w' (h'.2 w' (Fr.refl _ _))) (wpOp_monoQ hq (h.2 i hi).2)⟩
theorem ready_mem {hd tl : List Nat} (hcov : ∀ i, i < ops.size → i ∈ hd ∨ i ∈ tl) {listed : Array Bool} {j : Nat} (hj : j ∈ Region.ready md ops listed) : j ∈ hd ∨ j ∈ tl := by
  obtain ⟨_, oj, hoj, _⟩ := mem_ready.1 hj
  exact hcov j (Array.getElem?_eq_some_iff.1 hoj).1
theorem wpAnyT_first {hd tl : List Nat} (hcov : ∀ i, i < ops.size → i ∈ hd ∨ i ∈ tl) (hdis : ∀ i ∈ hd, i ∉ tl) (hB : waitB md ops hd tl = true) {i : Nat} {oi : Oper} {v : Value} {L : Array Bool → Act → World → Prop} (hi : ops[i]? = some oi) (hsel : ∀ (j : Nat) (o : Oper) cs b, ops[j]? = some o → o.op ≠ .select cs b)
    (hin : i ∈ hd) (hdone : ∀ listed a w, L listed a w → ∀ j ∈ Region.ready md ops listed, j ∈ tl) (hQ : ∀ c d u a w, Q (.panic c) (Act.put a d u) w → Q (.panic c) a w) :
    ∀ (f : Nat) (listed : Array Bool) (a : Act) (w0 : World), HeadI md ops tl listed →
      (∀ j oj, ops[j]? = some oj → j ≠ i → listed.getD j true = false → (∀ e ∈ oj.after, Region.binds md e = true → e.on ≠ i) → oi.apart ops oj = true) →
      i ∈ Region.ready md ops listed → YieldsF P ops w0 oi v a →
      (∀ w, Fr NoF w0 w → wpAnyT P md ops Q hd L f (listed.setIfInBounds i true) (a.put oi.dst v) w) → ∀ w, Fr NoF w0 w → wpAnyT P md ops Q hd L (f + 1) listed a w := by
  intro f
  induction f with
  | zero =>
    intro listed a w0 inv _ hr hy H w hw
    have hun := (mem_ready.1 hr).1
    refine ⟨fun h => (by rw [h] at hr; cases hr), fun j hj => ?_⟩
    have hjn : j ∈ hd := (ready_mem hcov hj).resolve_right (fun h => wait_of hB inv hin hun j h hj)
    refine ⟨hjn, ?_⟩
    by_cases hji : j = i
    · subst hji; exact hy.wpOp hi hw (fun w' hf => ⟨hf, fun w'' hf2 => H w'' ((hw.trans hf (fun _ h => .inl h)).trans hf2 (fun _ h => .inl h))⟩)
    · exact absurd (hdone _ _ _ (H w hw) j (ready_mono hj hji)) (hdis j hjn)
  | succ f ih =>
    intro listed a w0 inv hfree hr hy H w hw
    have hun := (mem_ready.1 hr).1
    refine ⟨fun h => (by rw [h] at hr; cases hr), fun j hj => ?_⟩
    have hjn : j ∈ hd := (ready_mem hcov hj).resolve_right (fun h => wait_of hB inv hin hun j h hj)
    refine ⟨hjn, ?_⟩
    by_cases hji : j = i
    · subst hji; exact hy.wpOp hi hw (fun w' hf => ⟨hf, fun w'' hf2 => H w'' ((hw.trans hf (fun _ h => .inl h)).trans hf2 (fun _ h => .inl h))⟩)
    · have h1 := ((H w hw).2 j (ready_mono hj hji)).2
      obtain ⟨hjun, oj, hoj, hall⟩ := mem_ready.1 hj
      have hnot : ∀ e ∈ oj.after, Region.binds md e = true → e.on ≠ i := fun e he hb heq => by
        have h1 := hall e he hb
        rw [heq, getD_both hun] at h1
        cases h1
      have h2 := wpOp_putF hoj (hfree j oj hoj hji hjun hnot) (fun cs b => hsel i oi cs b hi) (fun cs b => hsel j oj cs b hoj) hQ hy h1
      have hfree' : ∀ k ok, ops[k]? = some ok → k ≠ i → (listed.setIfInBounds j true).getD k true = false →
          (∀ e ∈ ok.after, Region.binds md e = true → e.on ≠ i) → oi.apart ops ok = true := fun k ok hk hki hun hno => by
        refine hfree k ok hk hki ?_ hno
        by_cases hjk : j = k
        · subst hjk; exact hjun
        · rw [getD_set_ne true hjk] at hun; exact hun
      refine wpOp_mono (fun a' w' h3 => ⟨h3.2.1, ?_⟩) h2
      refine ih (listed.setIfInBounds j true) a' w' (inv.set hj (hdis j hjn)) hfree' (ready_mono hr (Ne.symm hji)) (h3.1.later (hw.trans h3.2.1 (fun _ h => .inl h))) ?_
      rw [Array.setIfInBounds_comm _ _ hji]
      exact h3.2.2

def seqT (md : Region.Mode) (ops : Array Oper) : List Nat → Array Bool → Bool
  | [], listed => (Region.ready md ops listed).isEmpty
  | k :: tl, listed => decide (Region.ready md ops listed = [k]) && seqT md ops tl (listed.setIfInBounds k true)
def tailOps (l : List Oper) : List Nat → List Oper
  | [] => []
  | i :: tl => match l[i]? with
    | some o => o :: tailOps l tl
    | none => tailOps l tl
theorem wpAny_of_seqT {l : List Oper} (hops : ops = l.toArray) {Q' : Exit → Act → World → Prop} : ∀ (tl : List Nat) (listed : Array Bool) (a : Act) (w : World),
    seqT md ops tl listed = true → wpList P ops Q' (tailOps l tl) a w → wpAny P md ops Q' tl.length listed a w
  | [], listed, a, w, hB, h => ⟨by simpa [seqT] using hB, h⟩
  | k :: tl, listed, a, w, hB, h => by
    simp only [seqT, Bool.and_eq_true, decide_eq_true_eq] at hB
    have hk : k ∈ Region.ready md ops listed := by rw [hB.1]; simp
    obtain ⟨_, o, ho, _⟩ := mem_ready.1 hk
    have ho' : l[k]? = some o := by rw [hops] at ho; simpa using ho
    simp only [tailOps, ho'] at h
    refine ⟨fun h1 => (by rw [h1] at hk; cases hk), fun i hi => ?_⟩
    rw [hB.1] at hi
    obtain rfl : i = k := by simpa using hi
    have hw : wpOp P ops Q' i (wpList P ops Q' (tailOps l tl)) a w := by unfold wpOp; simp only [ho]; exact h
    exact wpOp_mono (fun a' w' h' => wpAny_of_seqT hops tl _ a' w' hB.2 h') hw
theorem seqT_ready {tl : List Nat} {listed : Array Bool} (h : seqT md ops tl listed = true) : ∀ j ∈ Region.ready md ops listed, j ∈ tl := by
  cases tl with
  | nil => intro j hj; simp only [seqT, List.isEmpty_iff] at h; rw [h] at hj; cases hj
  | cons k tl =>
    intro j hj
    simp only [seqT, Bool.and_eq_true, decide_eq_true_eq] at h
    rw [h.1] at hj
    have : j = k := by simpa using hj
    rw [this]
    simp
def planT (md : Region.Mode) (ops : Array Oper) (tl : List Nat) : List (Nat × Bool) → Array Bool → Bool
  | [], listed => seqT md ops tl listed
  | (i, b) :: plan, listed => (Region.ready md ops listed).contains i && (if b then Region.free md ops listed i else decide (Region.ready md ops listed = [i])) && planT md ops tl plan (listed.setIfInBounds i true)
def mixT (md : Region.Mode) (ops : Array Oper) (plan : List (Nat × Bool)) (tl : List Nat) : Bool :=
  Region.noSelect ops && ((List.range ops.size).all fun i => (plan.map (·.1)).contains i || tl.contains i) && ((plan.map (·.1)).all fun i => !tl.contains i) && waitB md ops (plan.map (·.1)) tl && decide (plan.length + tl.length = ops.size) && planT md ops tl plan (Array.replicate ops.size false)

theorem mixT_lex {l : List Oper} {hd tl : List Nat} {L : Act → World → Prop} (hcov : ∀ i, i < ops.size → i ∈ hd ∨ i ∈ tl) (hdis : ∀ i ∈ hd, i ∉ tl) (hB0 : waitB md ops hd tl = true) (hops : ops = l.toArray) (hsel : Region.noSelect ops = true)
    (hQ : ∀ c d u a w, Q (.panic c) (Act.put a d u) w → Q (.panic c) a w) :
    ∀ (plan : List (Nat × Bool)) (listed : Array Bool) (a : Act) (w0 : World), (∀ x ∈ plan, x.1 ∈ hd) → HeadI md ops tl listed → planT md ops tl plan listed = true → wpMix P ops Q L (planOps l plan) a w0 →
      ∀ w, Fr NoF w0 w → wpAnyT P md ops Q hd (fun listed' a' w' => seqT md ops tl listed' = true ∧ L a' w') plan.length listed a w
  | [], listed, a, w0, _, inv, hB, h, w, hw => ⟨hB, h w hw⟩
  | (i, b) :: plan, listed, a, w0, hsub, inv, hB, h, w, hw => by
    have hin : i ∈ hd := hsub (i, b) (by simp)
    have hsub' : ∀ x ∈ plan, x.1 ∈ hd := fun x hx => hsub x (by simp [hx])
    simp only [planT, Bool.and_eq_true] at hB
    obtain ⟨⟨hr, hf⟩, hB'⟩ := hB
    have hr' : i ∈ Region.ready md ops listed := by simpa using hr
    obtain ⟨hun, o, ho, hall⟩ := mem_ready.1 hr'
    have ho' : l[i]? = some o := by rw [hops] at ho; simpa using ho
    simp only [planOps, ho', wpMix] at h
    cases b with
    | true =>
      simp only [if_true] at h hf
      have hex : ∃ v, YieldsF P ops w0 o v a ∧ wpMix P ops Q L (planOps l plan) (a.put o.dst v) w0 := by
        by_cases hwt : Region.wanted o (yielded ops a.tmps) = true
        · rw [if_pos hwt] at h
          obtain ⟨v, h1, h2⟩ := h
          exact ⟨v, .inl ⟨hwt, h1⟩, h2⟩
        · rw [if_neg hwt] at h
          exact ⟨undef, .inr ⟨by simpa using hwt, rfl⟩, h⟩
      obtain ⟨v, hy, hK⟩ := hex
      exact wpAnyT_first hcov hdis hB0 ho (Region.noSelect_spec hsel) hin (fun listed' a' w' hL => seqT_ready hL.1) hQ plan.length listed a w0 inv (Region.free_spec ho hf) hr' hy
        (fun w1 hw1 => mixT_lex hcov hdis hB0 hops hsel hQ plan _ _ _ hsub' (inv.set hr' (hdis i hin)) hB' hK w1 hw1) w hw
    | false =>
      simp only [Bool.false_eq_true, if_false, decide_eq_true_eq] at h hf
      refine ⟨fun h0 => (by rw [h0] at hr'; cases hr'), fun j hj => ?_⟩
      rw [hf] at hj
      obtain rfl : j = i := by simpa using hj
      refine ⟨hin, ?_⟩
      unfold wpOp
      simp only [ho]
      by_cases hwt : Region.wanted o (yielded ops a.tmps) = true
      · rw [if_pos hwt] at h ⊢
        exact .inl (Oper.wp_mono (fun a' w' h' => ⟨h'.1, fun w'' hf2 => mixT_lex hcov hdis hB0 hops hsel hQ plan _ _ _ hsub' (inv.set hr' (hdis j hin)) hB' h'.2 w'' hf2⟩) (h w hw))
      · rw [if_neg hwt] at h ⊢
        exact ⟨Fr.refl _ _, fun w'' hf2 => mixT_lex hcov hdis hB0 hops hsel hQ plan _ _ _ hsub' (inv.set hr' (hdis j hin)) hB' h w'' (hw.trans hf2 (fun _ h => .inl h))⟩

theorem wp_region_tail {id : Nat} {a : Act} {w : World} {l : List Oper} (plan : List (Nat × Bool)) (tl : List Nat) (hm : P.follows .mixedOrders = true) (hB : mixT .any l.toArray plan tl = true)
    (h : wpMix P l.toArray (NoPanic Q) (fun a' w' => wpList P l.toArray Q (tailOps l tl) a' w') (planOps l plan) a w.drew) : (Code.region id l.toArray true).wp P Q a w := by
  simp only [mixT, Bool.and_eq_true, decide_eq_true_eq] at hB
  obtain ⟨⟨⟨⟨⟨hsel, hcov⟩, hdis⟩, hwt⟩, hlen⟩, hB⟩ := hB
  have hcov' : ∀ i, i < l.toArray.size → i ∈ plan.map (·.1) ∨ i ∈ tl := fun i hi => by
    have := List.all_eq_true.1 hcov i (List.mem_range.2 hi)
    simpa using this
  have hdis' : ∀ i ∈ plan.map (·.1), i ∉ tl := fun i hi => by
    have := List.all_eq_true.1 hdis i hi
    simpa using this
  have inv0 : HeadI .any l.toArray tl (Array.replicate l.toArray.size false) :=
    ⟨by simp, fun j oj _ hl => (by rw [getD_replicate_false] at hl; cases hl), fun t _ ht => getD_in (by simpa using ht) (getD_replicate_false _ _)⟩
  have H := mixT_lex (md := .any) (Q := NoPanic Q) (L := fun a' w' => wpList P l.toArray Q (tailOps l tl) a' w') hcov' hdis' hwt rfl hsel (fun _ _ _ _ _ h => h) plan _ a w.drew (fun x hx => List.mem_map.2 ⟨x, hx, rfl⟩) inv0 hB h w.drew (Fr.refl _ _)
  refine wp_region_any hm ?_
  have := wpAny_of_T (Q := NoPanic Q) (Q' := Q) NoPanic.imp (g := tl.length) (fun listed a' w' hL => wpAny_of_seqT rfl tl listed a' w' hL.1 hL.2) _ _ _ _ H
  rw [hlen] at this
  exact this
end
end Go.My
