/- Layer 18 (context), the plain law: a node more; what lies in memory for it. -/
import Derived.Test.YtopnnbhiehljlaaCq
namespace Go.Cx
set_option linter.unusedVariables false
open Go.Fq (T)
/-- A node more, with nothing behind it. -/
def addN (l : List Nd) (t : List UInt8) : List Nd := l ++ [⟨t, T.none_⟩]
/-- A sign more behind a text that has a node. -/
def setA (l : List Nd) (t : List UInt8) (x : UInt8) : List Nd := l.set (place l t) ⟨t, (tabAt l (place l t)).add x⟩
theorem addAt_in {l : List Nd} {t : List UInt8} (h : has l t = true) (x : UInt8) : addAt l t x = setA l t x := by unfold addAt; rw [if_pos h]; rfl
theorem has_mem (l : List Nd) (t : List UInt8) : has l t = decide (t ∈ texts l) := by
  unfold has place
  rw [← texts_length]
  exact decide_eq_decide.2 List.idxOf_lt_length_iff
theorem addN_texts (l : List Nd) (t : List UInt8) : texts (addN l t) = texts l ++ [t] := by simp [texts, addN]
theorem addN_length (l : List Nd) (t : List UInt8) : (addN l t).length = l.length + 1 := by simp [addN]
theorem addN_has (l : List Nd) (t u : List UInt8) : has (addN l t) u = (has l u || (u == t)) := by
  rw [has_mem, has_mem, addN_texts]
  by_cases h : u = t <;> simp [h]
theorem addN_place {l : List Nd} {t u : List UInt8} (h : has l u = true) : place (addN l t) u = place l u := by
  unfold place
  rw [addN_texts, List.idxOf_append, if_pos (List.idxOf_lt_length_iff.1 (by rw [texts_length]; exact (place_txt h).1))]
theorem addN_place_new {l : List Nd} {t : List UInt8} (h : has l t = false) : place (addN l t) t = l.length := by
  have hni : t ∉ texts l := by rw [has_mem] at h; exact of_decide_eq_false h
  unfold place
  rw [addN_texts, List.idxOf_append, if_neg hni, texts_length]
  simp
theorem addN_txt (l : List Nd) (t : List UInt8) {i : Nat} (hi : i < l.length) : txtAt (addN l t) i = txtAt l i ∧ tabAt (addN l t) i = tabAt l i := by
  unfold txtAt tabAt addN
  rw [List.getD_eq_getElem?_getD, List.getElem?_append_left hi, ← List.getD_eq_getElem?_getD]
  exact ⟨rfl, rfl⟩
theorem addN_new (l : List Nd) (t : List UInt8) : txtAt (addN l t) l.length = t ∧ tabAt (addN l t) l.length = T.none_ := by
  unfold txtAt tabAt addN
  simp [List.getD]
theorem setA_addN {l : List Nd} {t : List UInt8} (h : has l t = false) (x : UInt8) : setA (addN l t) t x = addAt l t x := by
  unfold setA addAt
  rw [addN_place_new h, (addN_new l t).2, if_neg (by rw [h]; exact Bool.false_ne_true)]
  unfold addN
  rw [List.set_append_right _ _ (Nat.le_refl _), Nat.sub_self]
  rfl
theorem sums_addN (l : List Nd) (t : List UInt8) : sums (addN l t) = sums l := by
  unfold addN
  rw [sums_append]
  rfl
theorem used_addN (l : List Nd) (t : List UInt8) : used (addN l t) = used l + 1 := by
  unfold used
  rw [sums_addN, addN_length]
  omega
theorem Good.addN {l : List Nd} (h : Good l) {t : List UInt8} (hh : has l t = false) (ht : t = [] ∨ has l t.tail = true) : Good (addN l t) := by
  have hni : t ∉ texts l := by rw [has_mem] at hh; exact of_decide_eq_false hh
  have hn := addN_new l t
  refine ⟨by rw [addN_texts, List.nodup_append]; exact ⟨h.nodup, by simp, fun a ha b hb e => by simp at hb; subst hb; subst e; exact hni ha⟩, fun i hi => ?_, fun i hi => ?_⟩
  · rw [addN_length] at hi
    rcases Nat.lt_or_ge i l.length with h1 | h1
    · rw [(addN_txt l t h1).1]
      rcases h.tails i h1 with h2 | ⟨j, hj, h2⟩
      · exact .inl h2
      · exact .inr ⟨j, hj, by rw [(addN_txt l t (by omega)).1]; exact h2⟩
    · obtain rfl : i = l.length := by omega
      rw [hn.1]
      rcases ht with h2 | h2
      · exact .inl h2
      · obtain ⟨j, hj, h3⟩ := has_iff.1 h2
        exact .inr ⟨j, hj, by rw [(addN_txt l t hj).1]; exact h3⟩
  · rw [addN_length] at hi
    rcases Nat.lt_or_ge i l.length with h1 | h1
    · rw [(addN_txt l t h1).2]
      exact h.ok i h1
    · obtain rfl : i = l.length := by omega
      rw [hn.2]
      exact T.Ok.none_
/-! ### The path -/
theorem upG_eq {f : Nat → Bool} {b n : Nat} (h : ∀ j, j < n → f j = true) (hn : n ≤ b) (hs : n < b → f n = false) : upG f b 0 = n := by
  obtain ⟨_, h2, h3, h4⟩ := upG_spec f b 0
  rcases Nat.lt_or_ge (upG f b 0) n with h1 | h1
  · have := h _ h1
    rw [h4 (by omega)] at this
    cases this
  · rcases Nat.lt_or_ge n (upG f b 0) with h5 | h5
    · have := h3 n (Nat.zero_le _) h5
      rw [hs (by omega)] at this
      cases this
    · omega
/-- The same with other nodes. -/
def C.with (c : C) (l : List Nd) : C := { c with nds := l }
theorem C.Ok.not_has {c : C} (h : c.Ok) {k : Nat} (hk : k ≤ c.m) (hp : c.plen ≤ k) : has c.nds (suf c.hist k) = false := by
  cases hh : has c.nds (suf c.hist k) with
  | false => rfl
  | true => have := (h.has_iff hk).1 hh; omega
theorem grow_plen {c : C} (h : c.Ok) (hk : c.plen ≤ c.m) : (c.with (addN c.nds (suf c.hist c.plen))).plen = c.plen + 1 := by
  show upG (fun j => has (addN c.nds (suf c.hist c.plen)) (suf c.hist j)) (c.m + 1) 0 = _
  have hml := c.m_le
  refine upG_eq (fun j hj => ?_) (by omega) (fun hb => ?_)
  · rw [addN_has]
    rcases Nat.lt_or_ge j c.plen with h1 | h1
    · rw [c.plen_has h1]; rfl
    · obtain rfl : j = c.plen := by omega
      simp
  · rw [addN_has, h.not_has (by omega) (by omega), Bool.false_or]
    have := suf_ne (h := c.hist) (a := c.plen + 1) (b := c.plen) (by omega) (by omega) (by omega)
    simpa using this
theorem addAt_same {c : C} {k : Nat} (hk : k < c.plen) (x : UInt8) : (c.with (setA c.nds (suf c.hist k) x)).plen = c.plen := by
  have hh := c.plen_has hk
  show upG (fun j => has (setA c.nds (suf c.hist k) x) (suf c.hist j)) (c.m + 1) 0 = upG (fun j => has c.nds (suf c.hist j)) (c.m + 1) 0
  congr 1
  funext j
  rw [← addAt_in hh, addAt_has]
  by_cases hj : suf c.hist j = suf c.hist k
  · rw [hj, hh]; rfl
  · have : (suf c.hist j == suf c.hist k) = false := by simpa using hj
    rw [this, Bool.or_false]
/-- A node more keeps what holds. -/
theorem grow_ok {c : C} (h : c.Ok) (hk : c.plen ≤ c.m) (hr : used c.nds < c.cells) : (c.with (addN c.nds (suf c.hist c.plen))).Ok := by
  have hml := c.m_le
  refine ⟨h.good.addN (h.not_has hk (Nat.le_refl _)) ?_, ?_, h.hl, h.ord16, h.lo, h.hi⟩
  · rcases Nat.eq_zero_or_pos c.plen with h0 | h0
    · rw [h0, suf_zero]; exact .inl rfl
    · have ht := (suf_tail (h := c.hist) (k := c.plen - 1) (by omega)).1
      rw [show c.plen - 1 + 1 = c.plen by omega] at ht
      rw [ht]
      exact .inr (c.plen_has (by omega))
  · show used (addN _ _) ≤ c.cells
    rw [used_addN]
    omega
end Go.Cx
namespace Go.Proofs.Ytopnnbhiehljlaa
set_option linter.unusedVariables false
open Go.RowKit Go.My Go.Cx
theorem ids_grow {c : C} (h : c.Ok) (hk : c.plen ≤ c.m) : ids (c.with (addN c.nds (suf c.hist c.plen))) (c.plen + 1) = ids c c.plen ++ [c.nds.length + 1] := by
  have hno := h.not_has hk (Nat.le_refl _)
  rw [ids_snoc]
  congr 1
  · refine List.map_congr_left fun k hk => ?_
    have hh := c.plen_has (List.mem_range.1 hk)
    show idOf (addN _ _) (suf c.hist k) = idOf c.nds (suf c.hist k)
    rw [idOf_place hh, idOf_place (by rw [addN_has, hh]; rfl), addN_place hh]
  · show [idOf (addN _ _) (suf c.hist c.plen)] = _
    rw [idOf_place (by rw [addN_has]; simp), addN_place_new hno]
theorem ids_same {c : C} {k : Nat} (hk : k < c.plen) (x : UInt8) (n : Nat) (hn : n ≤ c.plen) : ids (c.with (setA c.nds (suf c.hist k) x)) n = ids c n := by
  have hh := c.plen_has hk
  refine List.map_congr_left fun j hj => ?_
  have hj2 := c.plen_has (k := j) (by have := List.mem_range.1 hj; omega)
  show idOf (setA _ _ _) (suf c.hist j) = idOf c.nds (suf c.hist j)
  rw [← addAt_in hh, idOf_place hj2, idOf_place (by rw [addAt_has, hj2]; rfl), addAt_place _ _ _ _ hj2]
/-! ### The arena -/
theorem kid_zero {l : List Nd} (hg : Cx.Good l) {t : List UInt8} (hh : has l t = false) : ∀ n, n ≤ l.length → kid l t n = 0
  | 0, _ => rfl
  | n + 1, hn => by
    unfold kid
    rw [if_neg, kid_zero hg hh n (by omega)]
    rintro ⟨h1, h2⟩
    rcases hg.tails n (by omega) with h3 | ⟨j, hj, h3⟩
    · exact h1 h3
    · have : has l t = true := has_iff.2 ⟨j, by omega, by rw [h3, h2]⟩
      rw [hh] at this
      cases this
theorem tail_ne {t : List UInt8} (h : t ≠ []) : t.tail ≠ t := fun e => by
  have := congrArg List.length e
  rw [List.length_tail] at this
  cases t with
  | nil => exact h rfl
  | cons a b => simp at this
theorem nvs_root (tp : Nat) : nvs (addN [] []) [tp] = [⟨0, 0, 0, tp⟩] := rfl
theorem nvs_grow {l : List Nd} (hg : Cx.Good l) {t : List UInt8} (hh : has l t = false) (hne : t ≠ []) (hup : has l t.tail = true) (tps : List Nat) (tp : Nat) (htl : tps.length = l.length) :
    nvs (addN l t) (tps ++ [tp]) = (nvs l tps ++ [(⟨t.headD 0, 0, kid l t.tail l.length, tp⟩ : Nv)]).set (place l t.tail) { nvAt l tps (place l t.tail) with ch := l.length + 1 } := by
  obtain ⟨hu1, hu2⟩ := place_txt hup
  refine List.ext_getElem (by simp [nvs, addN]) fun i h1 h2 => ?_
  have hi : i < l.length + 1 := by rw [nvs_length, addN_length] at h1; exact h1
  have e1 : (nvs (addN l t) (tps ++ [tp]))[i] = nvAt (addN l t) (tps ++ [tp]) i := by simp [nvs]
  rw [e1, List.getElem_set]
  have hlast : ∀ u, kid (addN l t) u (addN l t).length = if t.tail = u then l.length + 1 else kid l u l.length := fun u => by
    rw [addN_length]
    show (if txtAt (addN l t) l.length ≠ [] ∧ (txtAt (addN l t) l.length).tail = u then l.length + 1 else kid (addN l t) u l.length) = _
    rw [(addN_new l t).1]
    by_cases hu : t.tail = u
    · rw [if_pos ⟨hne, hu⟩, if_pos hu]
    · rw [if_neg (fun h => hu h.2), if_neg hu]
      exact kid_more l [⟨t, Fq.T.none_⟩] u l.length (Nat.le_refl _)
  rcases Nat.lt_or_ge i l.length with h3 | h3
  · have hold : (nvs l tps ++ [(⟨t.headD 0, 0, kid l t.tail l.length, tp⟩ : Nv)])[i]'(by rw [List.length_append, nvs_length]; simpa using hi) = nvAt l tps i := by
      rw [List.getElem_append_left (by rw [nvs_length]; exact h3)]
      simp [nvs]
    rw [hold]
    have hsame : nvAt (addN l t) (tps ++ [tp]) i = { nvAt l tps i with ch := if t.tail = txtAt l i then l.length + 1 else kid l (txtAt l i) l.length } := by
      unfold nvAt
      rw [(addN_txt l t h3).1, hlast, show kid (addN l t) (txtAt l i).tail i = kid l (txtAt l i).tail i from kid_more l [⟨t, Fq.T.none_⟩] _ i (by omega), show (tps ++ [tp]).getD i 0 = tps.getD i 0 by simp only [List.getD]; rw [List.getElem?_append_left (by omega)]]
    rw [hsame]
    by_cases hp : place l t.tail = i
    · subst hp
      rw [if_pos rfl, hu2, if_pos rfl]
    · have hx : t.tail ≠ txtAt l i := fun e => hp (by rw [e]; exact place_of hg.nodup h3)
      rw [if_neg hp, if_neg hx]
      rfl
  · obtain rfl : i = l.length := by omega
    rw [if_neg (by omega)]
    have hnew : (nvs l tps ++ [(⟨t.headD 0, 0, kid l t.tail l.length, tp⟩ : Nv)])[l.length]'(by rw [List.length_append, nvs_length]; simp) = ⟨t.headD 0, 0, kid l t.tail l.length, tp⟩ := by
      rw [List.getElem_append_right (by rw [nvs_length]; exact Nat.le_refl _)]
      simp [nvs_length]
    rw [hnew]
    unfold nvAt
    rw [(addN_new l t).1, hlast, if_neg (tail_ne hne), kid_zero hg hh _ (Nat.le_refl _), if_neg hne, show kid (addN l t) t.tail l.length = kid l t.tail l.length from kid_more l [⟨t, Fq.T.none_⟩] _ _ (Nat.le_refl _)]
    congr 1
    simp only [List.getD]
    rw [List.getElem?_append_right (by omega), htl, Nat.sub_self]
    rfl
theorem setA_txt {l : List Nd} {t : List UInt8} (h : has l t = true) (x : UInt8) (i : Nat) : txtAt (setA l t x) i = txtAt l i := by
  rcases Nat.lt_or_ge i l.length with h1 | h1
  · rw [← addAt_in h]
    exact addAt_txt l t x i h1
  · have h2 : (setA l t x).length ≤ i := by unfold setA; rw [List.length_set]; exact h1
    unfold txtAt
    rw [List.getD_eq_getElem?_getD, List.getD_eq_getElem?_getD, List.getElem?_eq_none h2, List.getElem?_eq_none h1]
theorem nvs_set {l : List Nd} {t : List UInt8} (h : has l t = true) (x : UInt8) (tps : List Nat) : nvs (setA l t x) tps = nvs l tps := by
  have hl : (setA l t x).length = l.length := by unfold setA; rw [List.length_set]
  unfold nvs
  rw [hl]
  refine List.map_congr_left fun i hi => ?_
  unfold nvAt
  rw [setA_txt h, hl, kid_texts _ l _ (setA_txt h x), kid_texts _ l _ (setA_txt h x)]
/-! ### The tables -/
theorem tabsO_length (M : Mm) (c : C) : (tabsO M c).length = c.nds.length := by simp [tabsO]
theorem tabsO_get (M : Mm) (c : C) {i : Nat} (hi : i < c.nds.length) : (tabsO M c)[i]? = some (tabO (M.tps.getD i 0) (tabAt c.nds i) (M.vs.getD i (undef, undef)).1 (M.vs.getD i (undef, undef)).2) := by simp [tabsO, hi]
theorem tabsO_grow {M M' : Mm} {c : C} (t : List UInt8) (tp : Nat) (v1 v2 : Value) (htl : M.tps.length = c.nds.length) (hvl : M.vs.length = c.nds.length) (ht : M'.tps = M.tps ++ [tp]) (hv : M'.vs = M.vs ++ [(v1, v2)]) :
    tabsO M' (c.with (addN c.nds t)) = tabsO M c ++ [tabO tp Fq.T.none_ v1 v2] := by
  unfold tabsO
  rw [show (c.with (addN c.nds t)).nds = addN c.nds t from rfl, addN_length, List.range_succ, List.map_append, ht, hv]
  congr 1
  · refine List.map_congr_left fun i hi => ?_
    have hi := List.mem_range.1 hi
    rw [(addN_txt c.nds t hi).2]
    simp only [List.getD]
    rw [List.getElem?_append_left (by omega), List.getElem?_append_left (by omega)]
  · simp only [List.map_cons, List.map_nil]
    rw [(addN_new c.nds t).2]
    simp only [List.getD]
    rw [List.getElem?_append_right (by omega), List.getElem?_append_right (by omega), htl, hvl, Nat.sub_self]
    rfl
theorem tabsO_set {M M' : Mm} {c : C} {t : List UInt8} (h : has c.nds t = true) (x : UInt8) (v1 v2 : Value) (htl : M.tps.length = c.nds.length) (hvl : M.vs.length = c.nds.length) (ht : M'.tps = M.tps) (hv : M'.vs = M.vs.set (place c.nds t) (v1, v2)) :
    tabsO M' (c.with (setA c.nds t x)) = (tabsO M c).set (place c.nds t) (tabO (M.tps.getD (place c.nds t) 0) ((tabAt c.nds (place c.nds t)).add x) v1 v2) := by
  obtain ⟨hp, _⟩ := place_txt h
  obtain ⟨i, hi⟩ : ∃ i, place c.nds t = i := ⟨_, rfl⟩
  have hset : (c.with (setA c.nds t x)).nds = c.nds.set i ⟨t, (tabAt c.nds i).add x⟩ := by rw [← hi]; rfl
  rw [hi] at hp hv ⊢
  refine List.ext_getElem (by simp [tabsO, hset]) fun j h1 h2 => ?_
  have hj : j < c.nds.length := by rw [List.length_set, tabsO_length] at h2; exact h2
  rw [List.getElem_set]
  unfold tabsO
  simp only [List.getElem_map, List.getElem_range, hset, ht, hv]
  unfold tabAt
  by_cases e : i = j
  · subst e
    rw [if_pos rfl]
    simp only [List.getD]
    rw [List.getElem?_set_self hp, List.getElem?_set_self (by omega)]
    rfl
  · rw [if_neg e]
    simp only [List.getD]
    rw [List.getElem?_set_ne e, List.getElem?_set_ne e]
end Go.Proofs.Ytopnnbhiehljlaa
