/- Layer 17 (arena): what an arena holds, in memory. -/
import Derived.Test.YtfmoagdhajfngaaApp
namespace Go.My
open Go.RowKit

theorem news2 (W : World) (o1 : Obj) (x : Value) (t : TypeId) : ∀ j u, [x][j]? = some u → ((W.alloc o1).alloc (.cells #[x] t)).cell? ((⟨W.heap.size + 1, 0, none⟩ : Addr).add j) = some u := by
  have h := World.news_of_block (cs := #[x]) (t := t) (fr := (0, 0)) (heap_alloc_new (W.alloc o1) (.cells #[x] t))
  have e : (W.alloc o1).heap.size = W.heap.size + 1 := by simp
  rw [e] at h
  exact h
theorem ne_of_ty {w : World} {a b : Nat} {ca cb : Array Value} {ta tb : TypeId} {fa fb : Nat × Nat} (h1 : w.heap[a]? = some (.cells ca ta fa)) (h2 : w.heap[b]? = some (.cells cb tb fb)) (hne : ta ≠ tb) : a ≠ b := by
  rintro rfl
  rw [h1] at h2
  injection h2 with h
  injection h with _ h3 _
  exact hne h3
theorem own_ty {w : World} {B e s n g : Nat} {v : Value} {xs : List Value} (h : w.ownsRow B e s v n xs) (hg : v.ownBlock = some g) : ∃ cur, w.heap[g]? = some (.cells cur e (0, 0)) := by
  rcases h.2 with ⟨hv, _⟩ | ⟨g0, cap, cur, rfl, _, hgg, _⟩
  · subst hv; cases hg
  · obtain rfl : g0 = g := by simpa [Value.ownBlock] using hg
    exact ⟨cur, hgg⟩
theorem own_same {w w' : World} {B e s n : Nat} {v : Value} {xs : List Value} (h : w.ownsRow B e s v n xs) (hk : ∀ g, v.ownBlock = some g → w'.heap[g]? = w.heap[g]?) : w'.ownsRow B e s v n xs := by
  refine ⟨h.1, ?_⟩
  rcases h.2 with hn | ⟨g, cap, cur, rfl, hb, hgg, rest⟩
  · exact .inl hn
  · exact .inr ⟨g, cap, cur, rfl, hb, (hk g rfl).trans hgg, rest⟩

abbrev Cl := Nat × Value × Bool
def ptrs (us : List Cl) : List Value := us.map fun x => .pointer (some ⟨x.1, 0, none⟩)
def nums (fs : List Nat) : List Value := fs.map fun (i : Nat) => Value.int .i64 (i : Int)
structure Tys (tA tC tP : TypeId) : Prop where
  ac : tA ≠ tC
  ap : tA ≠ tP
  cp : tC ≠ tP
  a3 : tA ≠ 3
  c3 : tC ≠ 3
  p3 : tP ≠ 3

/-- An arena at p: its cells, and those that are free. -/
structure Ar (tA tC tP : TypeId) (B : Nat) (w : World) (p : Nat) (room : Nat) (u f : Value) (us : List Cl) (fs : List Nat) : Prop where
  hp : w.heap[p]? = some (.cells #[.int .i64 (room : Int), u, f] tA (0, 0))
  own : w.ownsRow B tP 1 u us.length (ptrs us)
  ofs : w.ownsRow B 3 1 f fs.length (nums fs)
  cell : ∀ (i b : Nat) (v : Value) (t : Bool), us[i]? = some ((b, v, t) : Cl) → w.heap[b]? = some (.cells #[v, .bool t] tC (0, 0)) ∧ B ≤ b
  nodup : ∀ (i j b : Nat) (v : Value) (t : Bool) (v' : Value) (t' : Bool), us[i]? = some ((b, v, t) : Cl) → us[j]? = some ((b, v', t') : Cl) → i = j
  le : us.length ≤ room
  pB : B ≤ p
  big : room ≤ 9223372036854775807

variable {tA tC tP : TypeId} {B : Nat} {w : World} {p room : Nat} {u f : Value} {us : List Cl} {fs : List Nat}

theorem Ar.drewN (h : Ar tA tC tP B w p room u f us fs) (n : Nat) : Ar tA tC tP B (w.drewN n) p room u f us fs := ⟨h.hp, h.own, h.ofs, h.cell, h.nodup, h.le, h.pB, h.big⟩

theorem Ar.drew (h : Ar tA tC tP B w p room u f us fs) : Ar tA tC tP B w.drew p room u f us fs := ⟨h.hp, h.own, h.ofs, h.cell, h.nodup, h.le, h.pB, h.big⟩

/-- Where no block of it turns. -/
theorem Ar.keep {w' : World} (h : Ar tA tC tP B w p room u f us fs) (hk : ∀ k, k < w.heap.size → w'.heap[k]? = w.heap[k]?) : Ar tA tC tP B w' p room u f us fs := by
  refine ⟨(hk _ (lt_of_block h.hp)).trans h.hp, own_same h.own ?_, own_same h.ofs ?_, ?_, h.nodup, h.le, h.pB, h.big⟩
  · intro g hg
    obtain ⟨cur, hc⟩ := own_ty h.own hg
    exact hk _ (lt_of_block hc)
  · intro g hg
    obtain ⟨cur, hc⟩ := own_ty h.ofs hg
    exact hk _ (lt_of_block hc)
  · intro i b v t hi
    have := h.cell i b v t hi
    exact ⟨(hk _ (lt_of_block this.1)).trans this.1, this.2⟩
theorem Ar.alloc (h : Ar tA tC tP B w p room u f us fs) (o : Obj) : Ar tA tC tP B (w.alloc o) p room u f us fs := h.keep fun k hk => Below.heap_alloc w o k hk

theorem Ar.cells (h : Ar tA tC tP B w p room u f us fs) : w.cell? ⟨p, 0, none⟩ = some (.int .i64 (room : Int)) ∧ w.cell? ⟨p, 1, none⟩ = some u ∧ w.cell? ⟨p, 2, none⟩ = some f := by
  refine ⟨?_, ?_, ?_⟩ <;> rw [cell_of h.hp] <;> rfl
theorem Ar.fresh (w : World) (n : Nat) (hn : n ≤ 9223372036854775807) (hB : B ≤ w.heap.size) :
    Ar tA tC tP B (w.alloc (.cells #[.int .i64 (n : Int), .slice none 0 0, .slice none 0 0] tA)) w.heap.size n (.slice none 0 0) (.slice none 0 0) [] [] :=
  ⟨heap_alloc_new w _, World.ownsRow_nil _ _ _ _, World.ownsRow_nil _ _ _ _, fun i b v t h => by simp at h, fun i j b v t v' t' h => by simp at h, by simp, hB, hn⟩
/-- A pointer in the row of cells. -/
theorem Ar.ptr (h : Ar tA tC tP B w p room u f us fs) {g cap : Nat} (hu : u = .slice (some ⟨g, 0, none⟩) us.length cap) {i b : Nat} {v : Value} {t : Bool} (hi : us[i]? = some ((b, v, t) : Cl)) :
    w.cell? ⟨g, i, none⟩ = some (.pointer (some ⟨b, 0, none⟩)) := by
  have hc := World.ownsRow.cells h.own (g := g) (by rw [hu]; rfl) i (.pointer (some ⟨b, 0, none⟩)) (by simp [ptrs, hi])
  unfold Addr.add at hc
  split at hc
  · next h0 => rw [h0]; exact hc
  · simpa using hc

/-- A cell that was never taken: what the append leaves. -/
theorem Ar.took (ty : Tys tA tC tP) (h : Ar tA tC tP B w p room u f us fs) (hB : B ≤ w.heap.size) (val : Value) (W3 : World) (v' : Value) (n : Nat) (hn : n = us.length)
    (hown : W3.ownsRow B tP 1 v' (n + 1) (ptrs us ++ [.pointer (some ⟨w.heap.size, 0, none⟩)]))
    (hgrow : ((w.alloc (.cells #[val, .bool true] tC)).alloc (.cells #[.pointer (some ⟨w.heap.size, 0, none⟩)] tP)).grownBy W3 u.ownBlock) (hroom : us.length < room) :
    W3.heap[p]? = some (.cells #[.int .i64 (room : Int), u, f] tA (0, 0)) ∧
      Ar tA tC tP B (W3.setCell ⟨p, 1, none⟩ v') p room v' f (us ++ [(w.heap.size, val, true)]) fs ∧ Fr (fun k => B ≤ k) w (W3.setCell ⟨p, 1, none⟩ v') := by
  subst hn
  have hold : ∀ k, k < w.heap.size → some k ≠ u.ownBlock → W3.heap[k]? = w.heap[k]? := by
    intro k hk hne
    rw [hgrow.block k (by simp; omega) hne, Below.heap_alloc _ _ _ (by simp; omega), Below.heap_alloc _ _ _ hk]
  have hneu : ∀ k cs t fr, w.heap[k]? = some (.cells cs t fr) → t ≠ tP → some k ≠ u.ownBlock := by
    intro k cs t fr hk ht he
    obtain ⟨cur, hc⟩ := own_ty h.own he.symm
    exact ne_of_ty hk hc ht rfl
  have hp3 : W3.heap[p]? = some (.cells #[.int .i64 (room : Int), u, f] tA (0, 0)) := (hold p (lt_of_block h.hp) (hneu _ _ _ _ h.hp ty.ap)).trans h.hp
  have hnew : W3.heap[w.heap.size]? = some (.cells #[val, .bool true] tC (0, 0)) := by
    have hne : some w.heap.size ≠ u.ownBlock := by
      intro he
      obtain ⟨cur, hc⟩ := own_ty h.own he.symm
      have := lt_of_block hc
      omega
    rw [hgrow.block w.heap.size (by simp; omega) hne, Below.heap_alloc _ _ _ (by simp), heap_alloc_new]
  have hcell3 : ∀ (i b : Nat) (v : Value) (t : Bool), (us ++ [((w.heap.size, val, true) : Cl)])[i]? = some ((b, v, t) : Cl) → W3.heap[b]? = some (.cells #[v, .bool t] tC (0, 0)) ∧ B ≤ b := by
    intro i b v t hi
    by_cases hlt : i < us.length
    · rw [List.getElem?_append_left hlt] at hi
      have hc := h.cell i b v t hi
      exact ⟨(hold b (lt_of_block hc.1) (hneu _ _ _ _ hc.1 ty.cp)).trans hc.1, hc.2⟩
    · rw [List.getElem?_append_right (by omega)] at hi
      obtain ⟨j, hj⟩ : ∃ j, i - us.length = j := ⟨_, rfl⟩
      rw [hj] at hi
      match j, hi with
      | 0, hi =>
        simp at hi
        obtain ⟨rfl, rfl, rfl⟩ := hi
        exact ⟨hnew, hB⟩
      | j + 1, hi => simp at hi
  have hfo : W3.ownsRow B 3 1 f fs.length (nums fs) := own_same h.ofs fun g hg => by
    obtain ⟨cur, hc⟩ := own_ty h.ofs hg
    exact hold g (lt_of_block hc) (hneu _ _ _ _ hc (Ne.symm ty.p3))
  refine ⟨hp3, ⟨by simpa using block_setCell hp3 (off := 1) v', ?_, ?_, ?_, ?_, by simp; omega, h.pB, h.big⟩, ?_⟩
  · have : W3.ownsRow B tP 1 v' (us ++ [(w.heap.size, val, true)]).length (ptrs (us ++ [(w.heap.size, val, true)])) := by
      simpa [ptrs] using hown
    refine own_same this fun g hg => Below.heap_setCell _ _ _ _ ?_
    obtain ⟨cur, hc⟩ := own_ty this hg
    exact ne_of_ty hc hp3 (Ne.symm ty.ap)
  · refine own_same hfo fun g hg => Below.heap_setCell _ _ _ _ ?_
    obtain ⟨cur, hc⟩ := own_ty hfo hg
    exact ne_of_ty hc hp3 (Ne.symm ty.a3)
  · intro i b v t hi
    have hc := hcell3 i b v t hi
    exact ⟨block_setCell_other hc.1 (ne_of_ty hc.1 hp3 (Ne.symm ty.ac)) _, hc.2⟩
  · intro i j b v t v2 t2 hi hj
    have aux : ∀ (i b : Nat) (v : Value) (t : Bool), us[i]? = some ((b, v, t) : Cl) → b < w.heap.size := fun i b v t hi => lt_of_block (h.cell i b v t hi).1
    have part : ∀ (i b : Nat) (v : Value) (t : Bool), (us ++ [((w.heap.size, val, true) : Cl)])[i]? = some ((b, v, t) : Cl) → (i < us.length ∧ us[i]? = some ((b, v, t) : Cl)) ∨ (i = us.length ∧ b = w.heap.size) := by
      intro i b v t hi
      by_cases hlt : i < us.length
      · exact .inl ⟨hlt, by rwa [List.getElem?_append_left hlt] at hi⟩
      · have hlen := (List.getElem?_eq_some_iff.1 hi).1
        simp at hlen
        obtain rfl : i = us.length := by omega
        simp at hi
        exact .inr ⟨rfl, hi.1.symm⟩
    rcases part i b v t hi with ⟨_, h1⟩ | ⟨h1, h2⟩ <;> rcases part j b v2 t2 hj with ⟨_, h3⟩ | ⟨h3, h4⟩
    · exact h.nodup i j b v t v2 t2 h1 h3
    · have := aux i b v t h1; omega
    · have := aux j b v2 t2 h3; omega
    · omega
  · exact ((((Fr.refl _ w).alloc _).alloc _).grown hgrow (fun k hk => by
      rcases h.own.2 with ⟨hv, _⟩ | ⟨g, _, _, hv, hb, _⟩
      · rw [hv] at hk; cases hk
      · rw [hv] at hk
        have hk : some g = some k := hk
        injection hk with hk
        subst hk
        exact .inl hb)).setCell _ _ (.inl h.pB)

/-- .. and blocks of other types are as they were. -/
def Keeps (tA tP : TypeId) (w w' : World) : Prop := ∀ (k : Nat) (cs : Array Value) (t : TypeId) (fr : Nat × Nat), w.heap[k]? = some (.cells cs t fr) → t ≠ tA → t ≠ tP → w'.heap[k]? = some (.cells cs t fr)
theorem Ar.took_keep (h : Ar tA tC tP B w p room u f us fs) (o1 o2 : Obj) (W3 : World) (v' : Value) (hgrow : ((w.alloc o1).alloc o2).grownBy W3 u.ownBlock) (hp3 : W3.heap[p]? = some (.cells #[.int .i64 (room : Int), u, f] tA (0, 0))) :
    Keeps tA tP w (W3.setCell ⟨p, 1, none⟩ v') := by
  intro k cs t fr hk hA hP
  have hlt := lt_of_block hk
  have hne : some k ≠ u.ownBlock := by
    intro he
    obtain ⟨cur, hc⟩ := own_ty h.own he.symm
    exact ne_of_ty hk hc hP rfl
  have h3 : W3.heap[k]? = some (.cells cs t fr) := by
    rw [hgrow.block k (by simp; omega) hne, Below.heap_alloc _ _ _ (by simp; omega), Below.heap_alloc _ _ _ hlt]; exact hk
  exact block_setCell_other h3 (ne_of_ty h3 hp3 hA) _

/-- A value is laid into a cell. -/
theorem Ar.put (ty : Tys tA tC tP) (h : Ar tA tC tP B w p room u f us fs) {i b : Nat} {v : Value} {t : Bool} (hi : us[i]? = some ((b, v, t) : Cl)) (v' : Value) (t' : Bool) :
    Ar tA tC tP B ((w.setCell ⟨b, 0, none⟩ v').setCell ⟨b, 1, none⟩ (.bool t')) p room u f (us.set i (b, v', t')) fs ∧ Fr (fun k => B ≤ k) w ((w.setCell ⟨b, 0, none⟩ v').setCell ⟨b, 1, none⟩ (.bool t')) := by
  have hb := h.cell i b v t hi
  have hlt := (List.getElem?_eq_some_iff.1 hi).1
  have hoth : ∀ k, k ≠ b → ((w.setCell ⟨b, 0, none⟩ v').setCell ⟨b, 1, none⟩ (.bool t')).heap[k]? = w.heap[k]? := fun k hk => by
    rw [Below.heap_setCell _ _ _ _ hk, Below.heap_setCell _ _ _ _ hk]
  have hnew : ((w.setCell ⟨b, 0, none⟩ v').setCell ⟨b, 1, none⟩ (.bool t')).heap[b]? = some (.cells #[v', .bool t'] tC (0, 0)) := by
    have h1 := block_setCell hb.1 (off := 0) v'
    have h2 := block_setCell h1 (off := 1) (.bool t')
    simpa using h2
  have hptr : ptrs (us.set i (b, v', t')) = ptrs us := by
    have hg := (List.getElem?_eq_some_iff.1 hi).2
    unfold ptrs
    rw [List.map_set]
    apply List.ext_getElem?
    intro k
    by_cases hk : i = k
    · subst hk
      simp [hlt, hg]
    · simp [List.getElem?_set_ne hk]
  have hset : ∀ (k c : Nat) (y : Value) (s : Bool), (us.set i (b, v', t'))[k]? = some ((c, y, s) : Cl) → (k = i ∧ c = b ∧ y = v' ∧ s = t') ∨ (k ≠ i ∧ us[k]? = some ((c, y, s) : Cl)) := by
    intro k c y s hk
    by_cases h1 : i = k
    · subst h1
      rw [List.getElem?_set_self hlt] at hk
      simp at hk
      exact .inl ⟨rfl, hk.1.symm, hk.2.1.symm, hk.2.2.symm⟩
    · rw [List.getElem?_set_ne h1] at hk
      exact .inr ⟨fun e => h1 e.symm, hk⟩
  have hown : ((w.setCell ⟨b, 0, none⟩ v').setCell ⟨b, 1, none⟩ (.bool t')).ownsRow B tP 1 u us.length (ptrs us) := own_same h.own fun g hg => by
    obtain ⟨cur, hc⟩ := own_ty h.own hg
    exact hoth g (ne_of_ty hc hb.1 (Ne.symm ty.cp))
  refine ⟨⟨(hoth p (ne_of_ty h.hp hb.1 ty.ac)).trans h.hp, by rw [hptr]; simpa using hown, own_same h.ofs fun g hg => ?_, ?_, ?_, by simpa using h.le, h.pB, h.big⟩, ((Fr.refl _ w).setCell _ _ (.inl hb.2)).setCell _ _ (.inl hb.2)⟩
  · obtain ⟨cur, hc⟩ := own_ty h.ofs hg
    exact hoth g (ne_of_ty hc hb.1 (Ne.symm ty.c3))
  · intro k c y s hk
    rcases hset k c y s hk with ⟨rfl, rfl, rfl, rfl⟩ | ⟨hne, hk2⟩
    · exact ⟨hnew, hb.2⟩
    · have hc := h.cell k c y s hk2
      have hcb : c ≠ b := by
        rintro rfl
        exact hne (h.nodup k i _ _ _ _ _ hk2 hi)
      exact ⟨(hoth c hcb).trans hc.1, hc.2⟩
  · intro k1 k2 c y s y2 s2 h1 h2
    rcases hset k1 c y s h1 with ⟨e1, e2, e3, e4⟩ | ⟨hne, g1⟩ <;> rcases hset k2 c y2 s2 h2 with ⟨e5, e6, e7, e8⟩ | ⟨hne2, g2⟩
    · exact e1.trans e5.symm
    · rw [e2] at g2
      exact absurd (h.nodup _ _ _ _ _ _ _ g2 hi) hne2
    · rw [e6] at g1
      exact absurd (h.nodup _ _ _ _ _ _ _ g1 hi) hne
    · exact h.nodup _ _ _ _ _ _ _ g1 g2

/-- A cell is told free: what the append leaves. -/
theorem Ar.freed (ty : Tys tA tC tP) (h : Ar tA tC tP B w p room u f us fs) (k0 : Nat) (W3 : World) (f' : Value) (n : Nat) (hn : n = fs.length)
    (hown : W3.ownsRow B 3 1 f' (n + 1) (nums fs ++ [.int .i64 (k0 : Int)]))
    (hgrow : (w.alloc (.cells #[.int .i64 (k0 : Int)] 3)).grownBy W3 f.ownBlock) :
    W3.heap[p]? = some (.cells #[.int .i64 (room : Int), u, f] tA (0, 0)) ∧
      Ar tA tC tP B (W3.setCell ⟨p, 2, none⟩ f') p room u f' us (fs ++ [k0]) ∧ Fr (fun k => B ≤ k) w (W3.setCell ⟨p, 2, none⟩ f') := by
  subst hn
  have hold : ∀ k, k < w.heap.size → some k ≠ f.ownBlock → W3.heap[k]? = w.heap[k]? := by
    intro k hk hne
    rw [hgrow.block k (by simp; omega) hne, Below.heap_alloc _ _ _ hk]
  have hneu : ∀ k cs t fr, w.heap[k]? = some (.cells cs t fr) → t ≠ 3 → some k ≠ f.ownBlock := by
    intro k cs t fr hk ht he
    obtain ⟨cur, hc⟩ := own_ty h.ofs he.symm
    exact ne_of_ty hk hc ht rfl
  have hp3 : W3.heap[p]? = some (.cells #[.int .i64 (room : Int), u, f] tA (0, 0)) := (hold p (lt_of_block h.hp) (hneu _ _ _ _ h.hp ty.a3)).trans h.hp
  have hou : W3.ownsRow B tP 1 u us.length (ptrs us) := own_same h.own fun g hg => by
    obtain ⟨cur, hc⟩ := own_ty h.own hg
    exact hold g (lt_of_block hc) (hneu _ _ _ _ hc ty.p3)
  have hcell3 : ∀ (i b : Nat) (v : Value) (t : Bool), us[i]? = some ((b, v, t) : Cl) → W3.heap[b]? = some (.cells #[v, .bool t] tC (0, 0)) ∧ B ≤ b := by
    intro i b v t hi
    have hc := h.cell i b v t hi
    exact ⟨(hold b (lt_of_block hc.1) (hneu _ _ _ _ hc.1 ty.c3)).trans hc.1, hc.2⟩
  refine ⟨hp3, ⟨by simpa using block_setCell hp3 (off := 2) f', ?_, ?_, ?_, h.nodup, h.le, h.pB, h.big⟩, ?_⟩
  · refine own_same hou fun g hg => Below.heap_setCell _ _ _ _ ?_
    obtain ⟨cur, hc⟩ := own_ty hou hg
    exact ne_of_ty hc hp3 (Ne.symm ty.ap)
  · have : W3.ownsRow B 3 1 f' (fs ++ [k0]).length (nums (fs ++ [k0])) := by
      simpa [nums] using hown
    refine own_same this fun g hg => Below.heap_setCell _ _ _ _ ?_
    obtain ⟨cur, hc⟩ := own_ty this hg
    exact ne_of_ty hc hp3 (Ne.symm ty.a3)
  · intro i b v t hi
    have hc := hcell3 i b v t hi
    exact ⟨block_setCell_other hc.1 (ne_of_ty hc.1 hp3 (Ne.symm ty.ac)) _, hc.2⟩
  · exact (((Fr.refl _ w).alloc _).grown hgrow (fun k hk => by
      rcases h.ofs.2 with ⟨hv, _⟩ | ⟨g, _, _, hv, hb, _⟩
      · rw [hv] at hk; cases hk
      · rw [hv] at hk
        have hk : some g = some k := hk
        injection hk with hk
        subst hk
        exact .inl hb)).setCell _ _ (.inl h.pB)

/-- The last of the free cells is taken away. -/
theorem Ar.pop (ty : Tys tA tC tP) {gs : List Nat} {k0 g cap : Nat} (h : Ar tA tC tP B w p room u (.slice (some ⟨g, 0, none⟩) (gs.length + 1) cap) us (gs ++ [k0])) :
    Ar tA tC tP B (w.setCell ⟨p, 2, none⟩ (.slice (some ⟨g, 0, none⟩) gs.length cap)) p room u (.slice (some ⟨g, 0, none⟩) gs.length cap) us gs ∧ Fr (fun k => B ≤ k) w (w.setCell ⟨p, 2, none⟩ (.slice (some ⟨g, 0, none⟩) gs.length cap)) ∧
      w.cell? ⟨g, gs.length, none⟩ = some (.int .i64 (k0 : Int)) := by
  have hofs := h.ofs
  have hpop : w.ownsRow B 3 1 (.slice (some ⟨g, 0, none⟩) gs.length cap) gs.length (nums gs) := by
    obtain ⟨h1, h2⟩ := hofs
    rcases h2 with ⟨h0, _⟩ | ⟨g', cap', cur, hv, hg, hh, hn, hcap, hsz, htake⟩
    · cases h0
    · simp at hv
      obtain ⟨rfl, rfl⟩ := hv
      simp at hn htake
      refine ⟨by simp [nums], .inr ⟨g, cap, cur, rfl, hg, hh, by omega, hcap, hsz, ?_⟩⟩
      have h3 : (cur.toList.take (gs.length + 1)).take gs.length = (nums (gs ++ [k0])).take gs.length := by rw [htake]
      rw [List.take_take, Nat.min_eq_left (by omega)] at h3
      rw [Nat.mul_one, h3]
      simp [nums]
  have hcell := World.ownsRow.cells hofs (g := g) rfl gs.length (.int .i64 (k0 : Int)) (by simp [nums])
  have hcell' : w.cell? ⟨g, gs.length, none⟩ = some (.int .i64 (k0 : Int)) := by
    unfold Addr.add at hcell
    split at hcell
    · next h0 => rw [h0]; exact hcell
    · simpa using hcell
  refine ⟨⟨by simpa using block_setCell h.hp (off := 2) (.slice (some ⟨g, 0, none⟩) gs.length cap), ?_, ?_, ?_, h.nodup, h.le, h.pB, h.big⟩, (Fr.refl _ w).setCell _ _ (.inl h.pB), hcell'⟩
  · refine own_same h.own fun g hg => Below.heap_setCell _ _ _ _ ?_
    obtain ⟨cur, hc⟩ := own_ty h.own hg
    exact ne_of_ty hc h.hp (Ne.symm ty.ap)
  · refine own_same hpop fun g hg => Below.heap_setCell _ _ _ _ ?_
    obtain ⟨cur, hc⟩ := own_ty hpop hg
    exact ne_of_ty hc h.hp (Ne.symm ty.a3)
  · intro i b v t hi
    have hc := h.cell i b v t hi
    exact ⟨block_setCell_other hc.1 (ne_of_ty hc.1 h.hp (Ne.symm ty.ac)) _, hc.2⟩
end Go.My
