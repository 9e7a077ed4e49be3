/- RcEncodes: the walk of the law. -/
import Derived.Test.YtpddocehjljofaaRb
import Derived.Test.YtpddocehjljofaaRef3
import Derived.Deep.CutRange
namespace Go.Proofs.Ytpddocehjljofaa
open Go.RowKit Go.My

/-- Four numbers of 64 bits in an array. -/
def arr64 (ps : List Nat) : Array Value := (ps.map fun (x : Nat) => Value.int .u64 (x : Int)).toArray
theorem arr64_get {ps : List Nat} (h : Rc.Ps ps) {k : Nat} (hk : k < 4) : (arr64 ps)[k]? = some (.int .u64 ((ps.getD k 0 : Nat) : Int)) := by
  have hl := h.len
  have : k < ps.length := by omega
  simp [arr64, List.getD, List.getElem?_eq_getElem this]
theorem arr64_set (ps : List Nat) (k y : Nat) : (arr64 ps).setIfInBounds k (.int .u64 (y : Int)) = arr64 (ps.set k y) := by
  apply Array.ext'
  simp [arr64, List.map_set]

theorem RefA.keep_ {w w' : World} {r : Value} {a : Rc.A} {S : Nat → Prop} (h : RefA w r a) (hf : Fr S w w') (hr : ∀ g, rowOf r = some g → ¬ S g) : RefA w' r a := by
  obtain ⟨x, cap, L, Z, h1, rfl, h3⟩ := h.ex
  exact ⟨⟨x, cap, L, Z, own_keep h1 hf (fun k hk => hr k hk), rfl, h3⟩⟩
theorem RefA.row_ty {w : World} {r : Value} {a : Rc.A} (h : RefA w r a) {g : Nat} (hg : rowOf r = some g) : ∃ cur, w.heap[g]? = some (.cells cur 5 (0, 0)) := by
  obtain ⟨x, cap, L, Z, h1, rfl, h3⟩ := h.ex
  exact own_ty h1 hg

/-- What stands between two steps. -/
structure ReSt (w wr : World) (pe bp bq bm : Nat) (v : Value) (ops : List Rc.Op) (ps : List Nat) (r : Value) (a : Rc.A) (qs : List Nat) : Prop where
  enc : EncO wr pe v ops
  hp : wr.heap[bp]? = some (.cells (arr ps) 32 (0, 0))
  hq : wr.heap[bq]? = some (.cells (arr64 qs) 33 (0, 0))
  hm : ∃ u0 u1, r = .agg #[u0, u1] ∧ wr.heap[bm]? = some (.cells #[u0, u1] 29 (0, 0))
  ra : RefA wr r a
  row : ∀ g, rowOf r = some g → ¬ encFoot pe v g
  fr : Fr (fun _ => False) w wr
  hi : ∀ k, encFoot pe v k → w.heap.size ≤ k
  hip : w.heap.size ≤ bp
  hiq : w.heap.size ≤ bq
  him : w.heap.size ≤ bm

variable {w wr w' : World} {pe bp bq bm : Nat} {v v' : Value} {ops ops' : List Rc.Op} {ps qs : List Nat} {r r' : Value} {a a' : Rc.A}

theorem ReSt.fresh (h : ReSt w wr pe bp bq bm v ops ps r a qs) (hf : Fr (fun _ => False) wr w') : ReSt w w' pe bp bq bm v ops ps r a qs := by
  obtain ⟨u0, u1, h1, h2⟩ := h.hm
  exact ⟨h.enc.keep hf (fun _ _ h => h), hf.keep h.hp (fun h => h), hf.keep h.hq (fun h => h), ⟨u0, u1, h1, hf.keep h2 (fun h => h)⟩, h.ra.keep hf, h.row, h.fr.trans hf (fun _ h => .inl h), h.hi, h.hip, h.hiq, h.him⟩
theorem ReSt.op (h : ReSt w wr pe bp bq bm v ops ps r a qs) (he : EncO w' pe v' ops') (hs : Step wr w' (encFoot pe v) (encFoot pe v')) : ReSt w w' pe bp bq bm v' ops' ps r a qs := by
  obtain ⟨u0, u1, h1, h2⟩ := h.hm
  refine ⟨he, hs.keep h.hp (not_foot h.enc h.hp (by decide) (by decide)), hs.keep h.hq (not_foot h.enc h.hq (by decide) (by decide)), ⟨u0, u1, h1, hs.keep h2 (not_foot h.enc h2 (by decide) (by decide))⟩, h.ra.keep_ hs.fr h.row, fun g hg hf => ?_,
    h.fr.trans hs.fr (fun k hk => .inr (h.hi k hk)), fun k hk => (hs.foot k hk).elim (h.hi k) (fun h2 => Nat.le_trans h.fr.size h2), h.hip, h.hiq, h.him⟩
  obtain ⟨cur, hc⟩ := h.ra.row_ty hg
  rcases hs.foot g hf with h3 | h3
  · exact h.row g hg h3
  · have := lt_of_block hc; omega
theorem ReSt.set (h : ReSt w wr pe bp bq bm v ops ps r a qs) (k y : Nat) (he : EncO w' pe v' ops') (hs : Step (wr.setCell ⟨bp, k, none⟩ (.int .u16 (y : Int))) w' (encFoot pe v) (encFoot pe v')) : ReSt w w' pe bp bq bm v' ops' (ps.set k y) r a qs := by
  obtain ⟨u0, u1, h1, h2⟩ := h.hm
  have hsz : (wr.setCell ⟨bp, k, none⟩ (.int .u16 (y : Int))).heap.size = wr.heap.size := by simp [World.setCell]
  have hra : RefA (wr.setCell ⟨bp, k, none⟩ (.int .u16 (y : Int))) r a := h.ra.keep_ (S := fun i => i = bp) ((Fr.refl _ _).setCell _ _ (.inl rfl)) (fun g hg e => by
    obtain ⟨cur, hc⟩ := h.ra.row_ty hg
    exact ne_of_ty hc h.hp (by decide) e)
  refine ⟨he, by rw [← arr_set]; exact hs.keep (block_setCell h.hp _) (not_foot h.enc h.hp (by decide) (by decide)), hs.keep (block_setCell_other h.hq (ne_of_ty h.hq h.hp (by decide)) _) (not_foot h.enc h.hq (by decide) (by decide)), ⟨u0, u1, h1, hs.keep (block_setCell_other h2 (ne_of_ty h2 h.hp (by decide)) _) (not_foot h.enc h2 (by decide) (by decide))⟩, hra.keep_ hs.fr h.row, fun g hg hf => ?_,
    (h.fr.setCell ⟨bp, k, none⟩ (.int .u16 (y : Int)) (.inr h.hip)).trans hs.fr (fun k hk => .inr (h.hi k hk)), fun k hk => (hs.foot k hk).elim (h.hi k) (fun h2 => by rw [hsz] at h2; exact Nat.le_trans h.fr.size h2), h.hip, h.hiq, h.him⟩
  obtain ⟨cur, hc⟩ := h.ra.row_ty hg
  rcases hs.foot g hf with h3 | h3
  · exact h.row g hg h3
  · have := lt_of_block hc; omega
/-- The document's encoder is laid back. -/
theorem ReSt.mset (h : ReSt w wr pe bp bq bm v ops ps r a qs) (hf : Fr (fun _ => False) wr w') {u0 u1 : Value} (hr : RefA w' (.agg #[u0, u1]) a') (hg : ∀ g, rowOf (.agg #[u0, u1]) = some g → rowOf r = some g ∨ wr.heap.size ≤ g) :
    ReSt w ((w'.setCell ⟨bm, 0, none⟩ u0).setCell ⟨bm, 1, none⟩ u1) pe bp bq bm v ops ps (.agg #[u0, u1]) a' qs := by
  obtain ⟨x0, x1, h1, h2⟩ := h.hm
  have hb := hf.keep h2 (fun h => h)
  have hF : Fr (fun i => i = bm) w' ((w'.setCell ⟨bm, 0, none⟩ u0).setCell ⟨bm, 1, none⟩ u1) := ((Fr.refl (fun i => i = bm) w').setCell ⟨bm, 0, none⟩ u0 (.inl rfl)).setCell ⟨bm, 1, none⟩ u1 (.inl rfl)
  have he := h.enc.keep hf (fun _ _ h => h)
  refine ⟨he.keep hF (fun k hk e => not_foot he hb (by decide) (by decide) (e ▸ hk)), hF.keep (hf.keep h.hp (fun h => h)) (fun e => ne_of_ty (hf.keep h.hp (fun h => h)) hb (by decide) e), hF.keep (hf.keep h.hq (fun h => h)) (fun e => ne_of_ty (hf.keep h.hq (fun h => h)) hb (by decide) e),
    ⟨u0, u1, rfl, ?_⟩, hr.keep_ hF (fun g hg e => ?_), fun g hgg hfo => ?_, (h.fr.trans hf (fun _ h => .inl h)).trans hF (fun k hk => .inr (by rw [hk]; exact h.him)), h.hi, h.hip, h.hiq, h.him⟩
  · have q1 := block_setCell hb (off := 0) u0
    have q2 := block_setCell q1 (off := 1) u1
    simpa using q2
  · obtain ⟨cur, hc⟩ := hr.row_ty hg
    exact ne_of_ty hc hb (by decide) e
  · rcases hg g hgg with h3 | h3
    · exact h.row g h3 hfo
    · rcases hfo with rfl | hfo
      · have := lt_of_block h.enc.at_.blk; omega
      · obtain ⟨cur, hc⟩ := own_ty h.enc.at_.own hfo
        have := lt_of_block hc; omega
theorem ReSt.qset (h : ReSt w wr pe bp bq bm v ops ps r a qs) (k y : Nat) : ReSt w (wr.setCell ⟨bq, k, none⟩ (.int .u64 (y : Int))) pe bp bq bm v ops ps r a (qs.set k y) := by
  obtain ⟨u0, u1, h1, h2⟩ := h.hm
  have hF : Fr (fun i => i = bq) wr (wr.setCell ⟨bq, k, none⟩ (.int .u64 (y : Int))) := (Fr.refl _ _).setCell _ _ (.inl rfl)
  refine ⟨h.enc.keep hF (fun k hk e => not_foot h.enc h.hq (by decide) (by decide) (e ▸ hk)), hF.keep h.hp (fun e => ne_of_ty h.hp h.hq (by decide) e), by rw [← arr64_set]; exact block_setCell h.hq _, ⟨u0, u1, h1, hF.keep h2 (fun e => ne_of_ty h2 h.hq (by decide) e)⟩,
    h.ra.keep_ hF (fun g hg e => by obtain ⟨cur, hc⟩ := h.ra.row_ty hg; exact ne_of_ty hc h.hq (by decide) e), h.row, h.fr.setCell _ _ (.inr h.hiq), h.hi, h.hip, h.hiq, h.him⟩
end Go.Proofs.Ytpddocehjljofaa
