/- A region that draws its order, walked in one order of ours: reads and calls that leave old memory as it is (whatever blocks they lay), those whose value hangs on the world one by one, and a tail that is forced. -/
import Derived.Test.YtopnnbhiehljlaaQt
import Derived.Deep.RegionHeld3
namespace Go.My
set_option linter.unusedVariables false
open Go.RowKit

/-- No old block. -/
abbrev NoF : Nat → Prop := fun _ => False

section
variable {P : Program} {ops : Array Oper} {md : Region.Mode} {Q : Exit → Act → World → Prop}

/-- The value v, and nothing old has turned. -/
def quietFUpon (P : Program) (w : World) (v : Value) : Result Next → Prop
  | .ok (.value u) w' => w' = w ∧ u = v
  | .ok .skip w' => w' = w ∧ v = undef
  | .ok (.enter f args) w' => w' = w ∧ Calls P f args w (fun e w'' => e = .returned v ∧ Fr NoF w w'')
  | _ => False
def quietF (P : Program) (o : Oper) (a : Act) (w : World) (v : Value) : Prop := quietFUpon P w v ((execOp a.eval o).run P w)
def YieldsF (P : Program) (ops : Array Oper) (w0 : World) (o : Oper) (v : Value) (a : Act) : Prop :=
  (Region.wanted o (yielded ops a.tmps) = true ∧ ∀ w, Fr NoF w0 w → quietF P o a w v) ∨
  (Region.wanted o (yielded ops a.tmps) = false ∧ v = undef)

theorem YieldsF.wpOp {w0 : World} {i : Nat} {o : Oper} {v : Value} {a : Act} (hi : ops[i]? = some o) (hy : YieldsF P ops w0 o v a) {K : Act → World → Prop} {w : World} (hw0 : Fr NoF w0 w)
    (h : ∀ w', Fr NoF w w' → K (a.put o.dst v) w') : wpOp P ops Q i K a w := by
  unfold Go.wpOp
  simp only [hi]
  rcases hy with ⟨hw, hv⟩ | ⟨hw, rfl⟩
  · simp only [hw, if_true]
    refine .inl ?_
    have h3 := hv w hw0
    unfold quietF at h3
    unfold Oper.wp
    generalize (execOp a.eval o).run P w = r at *
    cases r with
    | ok n w' =>
      cases n <;> simp only [quietFUpon] at h3 <;> simp only [Oper.upon]
      case value u => obtain ⟨e1, e2⟩ := h3; rw [e1, e2]; exact h _ (Fr.refl _ _)
      case skip => obtain ⟨e1, e2⟩ := h3; rw [e1, ← e2]; exact h _ (Fr.refl _ _)
      case enter f args =>
        obtain ⟨e1, hc⟩ := h3
        rw [e1]
        exact hc.mono fun e w'' ⟨he, hw''⟩ => by subst he; exact h _ hw''
    | halt x w' => simp only [quietFUpon] at h3
  · simp only [hw, Bool.false_eq_true, if_false]; exact h _ (Fr.refl _ _)
theorem YieldsF.of_same {w0 : World} {o : Oper} {v : Value} {a a' : Act} (hy : YieldsF P ops w0 o v a) (he : execOp a'.eval o = execOp a.eval o)
    (hw : Region.wanted o (yielded ops a'.tmps) = Region.wanted o (yielded ops a.tmps)) : YieldsF P ops w0 o v a' := by
  unfold YieldsF quietF at *
  rw [he, hw]
  exact hy
theorem YieldsF.later {w0 w1 : World} {o : Oper} {v : Value} {a : Act} (hy : YieldsF P ops w0 o v a) (h : Fr NoF w0 w1) : YieldsF P ops w1 o v a :=
  hy.imp (fun ⟨hw, hv⟩ => ⟨hw, fun w hf => hv w (h.trans hf (fun _ h => .inl h))⟩) id

theorem wpOp_putF {w0 : World} {j : Nat} {oi oj : Oper} {v : Value} (hj : ops[j]? = some oj) (hap : oi.apart ops oj = true)
    (hsi : ∀ cs b, oi.op ≠ .select cs b) (hsj : ∀ cs b, oj.op ≠ .select cs b)
    (hQ : ∀ c d u a w, Q (.panic c) (Act.put a d u) w → Q (.panic c) a w) {K : Act → World → Prop} {a : Act} {w : World}
    (hy : YieldsF P ops w0 oi v a) (h : wpOp P ops Q j K (a.put oi.dst v) w) :
    wpOp P ops Q j (fun a' w' => YieldsF P ops w0 oi v a' ∧ K (a'.put oi.dst v) w') a w := by
  obtain ⟨h1, h2, h3⟩ := Oper.apart_spec hap
  have keep : ∀ (a : Act), YieldsF P ops w0 oi v a → ∀ u, YieldsF P ops w0 oi v (a.put oj.dst u) := fun a hy u =>
    hy.of_same (execOp_put oi hsi a oj.dst u h3) (wanted_put oi a oj.dst u h3)
  have keepD : ∀ d, YieldsF P ops w0 oi v { a with defers := d :: a.defers } := fun d => hy.of_same rfl rfl
  unfold wpOp at *
  simp only [hj] at *
  rw [wanted_put oj a oi.dst v h1] at h
  split
  · rename_i hw
    simp only [hw, if_true] at h
    rcases h with h | ⟨hasks, hlets⟩
    case inr => exact .inr ⟨by unfold Oper.asks at *; rw [execOp_put oj hsj a oi.dst v h1] at hasks; exact hasks, hlets⟩
    refine .inl ?_
    unfold Oper.wp at *
    rw [execOp_put oj hsj a oi.dst v h1] at h
    generalize (execOp a.eval oj).run P w = r at *
    cases r with
    | ok n w' =>
      cases n <;> simp only [Oper.upon] at h ⊢
      case value u => exact ⟨keep a hy u, by rw [← Act.put_comm a v u h2]; exact h⟩
      case skip => exact ⟨keep a hy _, by rw [← Act.put_comm a v undef h2]; exact h⟩
      case defer d =>
        refine ⟨keep _ (keepD d) _, ?_⟩
        rw [← Act.put_comm _ v undef h2, ← Act.put_defers]
        exact h
      case enter f args =>
        refine Calls.mono h fun e w'' he => ?_
        cases e with
        | returned u => exact ⟨keep a hy u, by rw [← Act.put_comm a v u h2]; exact he⟩
        | panicked c => exact hQ _ _ _ _ _ he
        | outgrown => exact he
      case row row args => exact Rows.mono h fun u w'' he => ⟨keep a hy u, by rw [← Act.put_comm a v u h2]; exact he⟩
    | halt x w' =>
      cases x <;> simp only [Oper.upon] at h ⊢
      case panic u => exact hQ _ _ _ _ _ h
  · rename_i hw
    simp only [hw] at h
    exact ⟨keep a hy _, by rw [← Act.put_comm a v undef h2]; exact h⟩

/-- The first operations in whatever order; between any two others may have laid blocks. -/
def wpAnyG (P : Program) (md : Region.Mode) (ops : Array Oper) (Q : Exit → Act → World → Prop) (n : Nat) (L : Array Bool → Act → World → Prop) : Nat → Array Bool → Act → World → Prop
  | 0, listed, a, w => L listed a w
  | f + 1, listed, a, w =>
    Region.ready md ops listed ≠ [] ∧ ∀ i ∈ Region.ready md ops listed, i < n ∧ wpOp P ops Q i (fun a' w' => Fr NoF w w' ∧ ∀ w'', Fr NoF w' w'' → wpAnyG P md ops Q n L f (listed.setIfInBounds i true) a' w'') a w

theorem oper_wp_monoQ {Q Q' : Exit → Act → World → Prop} (hq : ∀ e a w, Q e a w → Q' e a w) {o : Oper} {a : Act} {w : World} {K : Act → World → Prop} (hh : o.wp P a w K Q) : o.wp P a w K Q' := by
  unfold Oper.wp at *
  generalize (execOp a.eval o).run P w = r at *
  cases r with
  | ok n w' =>
    cases n <;> simp only [Oper.upon] at hh ⊢ <;>
      first
        | exact hh
        | exact Calls.mono hh (fun e w'' he => by cases e <;> first | exact he | exact hq _ _ _ he | (obtain ⟨a1, w1, h1⟩ := he; exact ⟨a1, w1, hq _ _ _ h1⟩))
  | halt x w' => cases x <;> simp only [Oper.upon] at hh ⊢ <;> first | exact hq _ _ _ hh | exact hh
theorem wpOp_monoQ {Q Q' : Exit → Act → World → Prop} (hq : ∀ e a w, Q e a w → Q' e a w) {i : Nat} {a : Act} {w : World} {K : Act → World → Prop} (hh : wpOp P ops Q i K a w) : wpOp P ops Q' i K a w := by
  unfold wpOp at *
  split
  · simpa [*] using hh
  · rename_i o ho
    simp only [ho] at hh
    split
    · rename_i hw
      simp only [hw, if_true] at hh
      exact hh.imp (oper_wp_monoQ hq) (fun ⟨h1, a1, w1, h2⟩ => ⟨h1, a1, w1, hq _ _ _ h2⟩)
    · rename_i hw; simp only [hw] at hh; exact hh

theorem wpAny_of_G {Q' : Exit → Act → World → Prop} (hq : ∀ e a w, Q e a w → Q' e a w) {n g : Nat} {L : Array Bool → Act → World → Prop} (hL : ∀ listed a w, L listed a w → wpAny P md ops Q' g listed a w) :
    ∀ (f : Nat) (listed : Array Bool) (a : Act) (w : World), wpAnyG P md ops Q n L f listed a w → wpAny P md ops Q' (f + g) listed a w
  | 0, listed, a, w, h => by rw [Nat.zero_add]; exact hL _ _ _ h
  | f + 1, listed, a, w, h => by
    rw [show f + 1 + g = (f + g) + 1 by omega]
    exact ⟨fun h0 => absurd h0 h.1, fun i hi => wpOp_mono (fun a' w' h' => wpAny_of_G hq hL f _ a' w' (h'.2 w' (Fr.refl _ _))) (wpOp_monoQ hq (h.2 i hi).2)⟩

theorem wpAnyG_first {n i : Nat} {oi : Oper} {v : Value} {L : Array Bool → Act → World → Prop} (hi : ops[i]? = some oi) (hsel : ∀ (j : Nat) (o : Oper) cs b, ops[j]? = some o → o.op ≠ .select cs b)
    (hwait : ∀ listed, HeadInv md ops n listed → ∀ i, i < n → listed.getD i true = false → ∀ t, n ≤ t → t ∉ Region.ready md ops listed) (hin : i < n)
    (hdone : ∀ listed a w, L listed a w → ∀ j ∈ Region.ready md ops listed, n ≤ j) (hQ : ∀ c d u a w, Q (.panic c) (Act.put a d u) w → Q (.panic c) a w) :
    ∀ (f : Nat) (listed : Array Bool) (a : Act) (w0 : World), HeadInv md ops n listed →
      (∀ j oj, ops[j]? = some oj → j ≠ i → listed.getD j true = false → (∀ e ∈ oj.after, Region.binds md e = true → e.on ≠ i) → oi.apart ops oj = true) →
      i ∈ Region.ready md ops listed → YieldsF P ops w0 oi v a →
      (∀ w, Fr NoF w0 w → wpAnyG P md ops Q n L f (listed.setIfInBounds i true) (a.put oi.dst v) w) → ∀ w, Fr NoF w0 w → wpAnyG P md ops Q n L (f + 1) listed a w := by
  intro f
  induction f with
  | zero =>
    intro listed a w0 inv _ hr hy H w hw
    have hun := (mem_ready.1 hr).1
    refine ⟨fun h => (by rw [h] at hr; cases hr), fun j hj => ?_⟩
    have hjn : j < n := by
      rcases Nat.lt_or_ge j n with h | h
      · exact h
      · exact absurd hj (hwait _ inv i hin hun j h)
    refine ⟨hjn, ?_⟩
    by_cases hji : j = i
    · subst hji; exact hy.wpOp hi hw (fun w' hf => ⟨hf, fun w'' hf2 => H w'' ((hw.trans hf (fun _ h => .inl h)).trans hf2 (fun _ h => .inl h))⟩)
    · have := hdone _ _ _ (H w hw) j (ready_mono hj hji)
      omega
  | succ f ih =>
    intro listed a w0 inv hfree hr hy H w hw
    have hun := (mem_ready.1 hr).1
    refine ⟨fun h => (by rw [h] at hr; cases hr), fun j hj => ?_⟩
    have hjn : j < n := by
      rcases Nat.lt_or_ge j n with h | h
      · exact h
      · exact absurd hj (hwait _ inv i hin hun j h)
    refine ⟨hjn, ?_⟩
    by_cases hji : j = i
    · subst hji; exact hy.wpOp hi hw (fun w' hf => ⟨hf, fun w'' hf2 => H w'' ((hw.trans hf (fun _ h => .inl h)).trans hf2 (fun _ h => .inl h))⟩)
    · have h1 := ((H w hw).2 j (ready_mono hj hji)).2
      obtain ⟨hjun, oj, hoj, hall⟩ := mem_ready.1 hj
      have hnot : ∀ e ∈ oj.after, Region.binds md e = true → e.on ≠ i := fun e he hb heq => by
        have h1 := hall e he hb
        rw [heq, getD_both hun] at h1
        cases h1
      have h2 := wpOp_putF hoj (hfree j oj hoj hji hjun hnot) (fun cs b => hsel i oi cs b hi) (fun cs b => hsel j oj cs b hoj) hQ hy h1
      have hfree' : ∀ k ok, ops[k]? = some ok → k ≠ i → (listed.setIfInBounds j true).getD k true = false →
          (∀ e ∈ ok.after, Region.binds md e = true → e.on ≠ i) → oi.apart ops ok = true := fun k ok hk hki hun hno => by
        refine hfree k ok hk hki ?_ hno
        by_cases hjk : j = k
        · subst hjk; exact hjun
        · rw [getD_set_ne true hjk] at hun; exact hun
      refine wpOp_mono (fun a' w' h3 => ⟨h3.2.1, ?_⟩) h2
      refine ih (listed.setIfInBounds j true) a' w' (inv.set hj hjn) hfree' (ready_mono hr (Ne.symm hji)) (h3.1.later (hw.trans h3.2.1 (fun _ h => .inl h))) ?_
      rw [Array.setIfInBounds_comm _ _ hji]
      exact h3.2.2

/-- The walk in our order. -/
def wpMix (P : Program) (ops : Array Oper) (Q : Exit → Act → World → Prop) (L : Act → World → Prop) : List (Oper × Bool) → Act → World → Prop
  | [], a, w0 => ∀ w, Fr NoF w0 w → L a w
  | (o, b) :: plan, a, w0 =>
      if Region.wanted o (yielded ops a.tmps) = true then
        (if b = true then ∃ v, (∀ w, Fr NoF w0 w → quietF P o a w v) ∧ wpMix P ops Q L plan (a.put o.dst v) w0
         else ∀ w, Fr NoF w0 w → o.wp P a w (fun a' w' => Fr NoF w w' ∧ wpMix P ops Q L plan a' w') Q)
      else wpMix P ops Q L plan (a.put o.dst undef) w0

def planOps (l : List Oper) : List (Nat × Bool) → List (Oper × Bool)
  | [] => []
  | (i, b) :: plan => match l[i]? with
    | some o => (o, b) :: planOps l plan
    | none => planOps l plan
def planB (md : Region.Mode) (ops : Array Oper) (n : Nat) : List (Nat × Bool) → Array Bool → Bool
  | [], listed => Region.seqB md ops (ops.size - n) n listed
  | (i, b) :: plan, listed => decide (i < n) && (Region.ready md ops listed).contains i && (if b then Region.free md ops listed i else decide (Region.ready md ops listed = [i])) && planB md ops n plan (listed.setIfInBounds i true)
def mixB (md : Region.Mode) (ops : Array Oper) (n : Nat) (plan : List (Nat × Bool)) : Bool :=
  Region.noSelect ops && (decide (n = ops.size) || (decide (n < ops.size) && Region.sinkB md ops n && Region.chainB md ops n)) && decide (plan.length = n) && planB md ops n plan (Array.replicate ops.size false)

theorem mix_lex {l : List Oper} {n : Nat} {L : Act → World → Prop} (hops : ops = l.toArray) (hsel : Region.noSelect ops = true)
    (hwait : ∀ listed, HeadInv md ops n listed → ∀ i, i < n → listed.getD i true = false → ∀ t, n ≤ t → t ∉ Region.ready md ops listed) (hQ : ∀ c d u a w, Q (.panic c) (Act.put a d u) w → Q (.panic c) a w) :
    ∀ (plan : List (Nat × Bool)) (listed : Array Bool) (a : Act) (w0 : World), HeadInv md ops n listed → planB md ops n plan listed = true → wpMix P ops Q L (planOps l plan) a w0 →
      ∀ w, Fr NoF w0 w → wpAnyG P md ops Q n (fun listed' a' w' => Region.seqB md ops (ops.size - n) n listed' = true ∧ L a' w') plan.length listed a w
  | [], listed, a, w0, inv, hB, h, w, hw => ⟨hB, h w hw⟩
  | (i, b) :: plan, listed, a, w0, inv, hB, h, w, hw => by
    simp only [planB, Bool.and_eq_true, decide_eq_true_eq] at hB
    obtain ⟨⟨⟨hin, hr⟩, hf⟩, hB'⟩ := hB
    have hr' : i ∈ Region.ready md ops listed := by simpa using hr
    obtain ⟨hun, o, ho, hall⟩ := mem_ready.1 hr'
    have ho' : l[i]? = some o := by rw [hops] at ho; simpa using ho
    simp only [planOps, ho', wpMix] at h
    cases b with
    | true =>
      simp only [if_true] at h hf
      have hex : ∃ v, YieldsF P ops w0 o v a ∧ wpMix P ops Q L (planOps l plan) (a.put o.dst v) w0 := by
        by_cases hwt : Region.wanted o (yielded ops a.tmps) = true
        · rw [if_pos hwt] at h
          obtain ⟨v, h1, h2⟩ := h
          exact ⟨v, .inl ⟨hwt, h1⟩, h2⟩
        · rw [if_neg hwt] at h
          exact ⟨undef, .inr ⟨by simpa using hwt, rfl⟩, h⟩
      obtain ⟨v, hy, hK⟩ := hex
      exact wpAnyG_first ho (Region.noSelect_spec hsel) hwait hin (fun listed' a' w' hL => seqB_ready hL.1) hQ plan.length listed a w0 inv (Region.free_spec ho hf) hr' hy
        (fun w1 hw1 => mix_lex hops hsel hwait hQ plan _ _ _ (inv.set hr' hin) hB' hK w1 hw1) w hw
    | false =>
      simp only [Bool.false_eq_true, if_false, decide_eq_true_eq] at h hf
      refine ⟨fun h0 => (by rw [h0] at hr'; cases hr'), fun j hj => ?_⟩
      rw [hf] at hj
      obtain rfl : j = i := by simpa using hj
      refine ⟨hin, ?_⟩
      unfold wpOp
      simp only [ho]
      by_cases hwt : Region.wanted o (yielded ops a.tmps) = true
      · rw [if_pos hwt] at h ⊢
        exact .inl (Oper.wp_mono (fun a' w' h' => ⟨h'.1, fun w'' hf2 => mix_lex hops hsel hwait hQ plan _ _ _ (inv.set hr' hin) hB' h'.2 w'' hf2⟩) (h w hw))
      · rw [if_neg hwt] at h ⊢
        exact ⟨Fr.refl _ _, fun w'' hf2 => mix_lex hops hsel hwait hQ plan _ _ _ (inv.set hr' hin) hB' h w'' (hw.trans hf2 (fun _ h => .inl h))⟩

theorem wp_region_mix {id : Nat} {a : Act} {w : World} {l : List Oper} (n : Nat) (plan : List (Nat × Bool)) (hm : P.follows .mixedOrders = true) (hB : mixB .any l.toArray n plan = true)
    (h : wpMix P l.toArray (NoPanic Q) (fun a' w' => wpList P l.toArray Q (l.drop n) a' w') (planOps l plan) a w.drew) : (Code.region id l.toArray true).wp P Q a w := by
  simp only [mixB, Bool.and_eq_true, decide_eq_true_eq, Bool.or_eq_true] at hB
  obtain ⟨⟨⟨hsel, hn⟩, hpl⟩, hB⟩ := hB
  have hn' : n ≤ l.length := by
    rcases hn with h | ⟨⟨h, _⟩, _⟩
    · simp at h; omega
    · simp at h; omega
  have hdl : (l.drop n).length = l.toArray.size - n := by simp
  have inv0 : HeadInv .any l.toArray n (Array.replicate l.toArray.size false) :=
    ⟨by simp, fun j oj _ hl => (by rw [getD_replicate_false] at hl; cases hl), fun t _ ht => getD_in (by simpa using ht) (getD_replicate_false _ _)⟩
  have hwait : ∀ listed, HeadInv .any l.toArray n listed → ∀ i, i < n → listed.getD i true = false → ∀ t, n ≤ t → t ∉ Region.ready .any l.toArray listed := by
    intro listed inv i hin hun t ht hr
    rcases hn with h | ⟨⟨h, hs⟩, hc⟩
    · obtain ⟨_, ot, hot, _⟩ := mem_ready.1 hr
      have := (Array.getElem?_eq_some_iff.1 hot).1
      omega
    · exact tail_waits hs hc h inv _ i rfl hin hun t ht hr
  have H := mix_lex (md := .any) (Q := NoPanic Q) (L := fun a' w' => wpList P l.toArray Q (l.drop n) a' w') rfl hsel hwait (fun _ _ _ _ _ h => h) plan _ a w.drew inv0 hB h w.drew (Fr.refl _ _)
  refine wp_region_any hm ?_
  have := wpAny_of_G (Q := NoPanic Q) (Q' := Q) NoPanic.imp (g := l.toArray.size - n) (fun listed a' w' hL => by
    have := wpAny_of_seq (md := .any) (Q' := Q) (l.drop n) n listed a' w' (fun j => by simp [List.getElem?_drop]) (by rw [hdl]; exact hL.1) hL.2
    rwa [hdl] at this) _ _ _ _ H
  rw [hpl, show n + (l.toArray.size - n) = l.toArray.size by simp; omega] at this
  exact this

/-! ### The steps -/
variable {L : Act → World → Prop} {plan : List (Oper × Bool)} {o : Oper} {a : Act} {w0 : World} {b : Bool}
theorem quietF_load {w : World} (t : TypeId) (x : Operand) (ho : o.op = .load t x) {ad : Addr} {v : Value} (hx : a.eval x = .pointer (some ad)) (hl : (loadVar t ad).run P w = .ok v w) : quietF P o a w v := by
  unfold quietF execOp
  simp only [ho, hx, Instr.loadAt, Instr.sureAddr, Sem.run_bind, Sem.run_pure, Result.andThen_ok, hl]
  exact ⟨rfl, rfl⟩
theorem mix_skip (hw : Region.wanted o (yielded ops a.tmps) = false) (h : wpMix P ops Q L plan (a.put o.dst undef) w0) : wpMix P ops Q L ((o, b) :: plan) a w0 := by
  unfold wpMix
  rw [if_neg (by rw [hw]; exact Bool.false_ne_true)]
  exact h
theorem mix_take (v : Value) (hw : Region.wanted o (yielded ops a.tmps) = true) (hq : ∀ u : InW (Fr NoF w0), quietF P o a u.to v) (h : wpMix P ops Q L plan (a.put o.dst v) w0) : wpMix P ops Q L ((o, true) :: plan) a w0 := by
  unfold wpMix
  rw [if_pos hw, if_pos rfl]
  exact ⟨v, fun w hf => hq ⟨w, hf⟩, h⟩
theorem mix_step (hw : Region.wanted o (yielded ops a.tmps) = true) (h : ∃ v, (∀ u : InW (Fr NoF w0), quietF P o a u.to v) ∧ wpMix P ops Q L plan (a.put o.dst v) w0) : wpMix P ops Q L ((o, true) :: plan) a w0 :=
  h.elim fun v h => mix_take v hw h.1 h.2
theorem mix_move (x : Operand) (ho : o.op = .move x) (hw : Region.wanted o (yielded ops a.tmps) = true) (h : wpMix P ops Q L plan (a.put o.dst (a.eval x)) w0) : wpMix P ops Q L ((o, true) :: plan) a w0 :=
  mix_take _ hw (fun u => by unfold quietF; rw [BigFrame.run_move x ho]; exact ⟨rfl, rfl⟩) h
theorem mix_assign (x : Operand) (ho : o.op = .assign x) (hw : Region.wanted o (yielded ops a.tmps) = true) (h : wpMix P ops Q L plan (a.put o.dst (a.eval x)) w0) : wpMix P ops Q L ((o, true) :: plan) a w0 :=
  mix_take _ hw (fun u => by unfold quietF; rw [BigFrame.run_assign x ho]; exact ⟨rfl, rfl⟩) h
theorem mix_loud (hw : Region.wanted o (yielded ops a.tmps) = true)
    (h : ∀ (w : World), Fr NoF w0 w → ∀ K : Act → World → Prop, Hid (∀ a' w', Fr NoF w w' → wpMix P ops Q L plan a' w' → K a' w') → o.wp P a w K Q) : wpMix P ops Q L ((o, false) :: plan) a w0 := by
  unfold wpMix
  rw [if_pos hw, if_neg Bool.false_ne_true]
  exact fun w hf => h w hf _ (Lib.hid (fun a' w' h1 h2 => ⟨h1, h2⟩))
theorem mix_nil (h : ∀ w, Fr NoF w0 w → L a w) : wpMix P ops Q L [] a w0 := h
end
end Go.My
