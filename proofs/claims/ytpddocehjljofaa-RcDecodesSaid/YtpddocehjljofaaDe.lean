/- RcDecodes: what stands between two steps. -/
import Derived.Test.YtpddocehjljofaaRe2
import Derived.Test.YtpddocehjljofaaRefF
import Derived.Test.YtpddocehjljofaaNil
namespace Go.Proofs.Ytpddocehjljofaa
open Go.RowKit Go.My

structure DeSt (w wr : World) (pd bp bq bm : Nat) (d x : Rc.D) (ps qs : List Nat) : Prop where
  dec : DecAt wr pd d
  g : DecG d
  hp : wr.heap[bp]? = some (.cells (arr ps) 32 (0, 0))
  hq : wr.heap[bq]? = some (.cells (arr64 qs) 33 (0, 0))
  hm : wr.heap[bm]? = some (.cells (dC x) 58 (0, 0))
  fr : Fr (fun _ => False) w wr
  hid : w.heap.size ≤ pd
  hip : w.heap.size ≤ bp
  hiq : w.heap.size ≤ bq
  him : w.heap.size ≤ bm

variable {w wr w' : World} {pd bp bq bm : Nat} {d d' x x' : Rc.D} {ps qs : List Nat}

theorem DeSt.fresh (h : DeSt w wr pd bp bq bm d x ps qs) (hf : Fr (fun _ => False) wr w') : DeSt w w' pd bp bq bm d x ps qs :=
  ⟨h.dec.keep hf (fun h => h), h.g, hf.keep h.hp (fun h => h), hf.keep h.hq (fun h => h), hf.keep h.hm (fun h => h), h.fr.trans hf (fun _ h => .inl h), h.hid, h.hip, h.hiq, h.him⟩
theorem DeSt.dop (h : DeSt w wr pd bp bq bm d x ps qs) (he : DecAt w' pd d') (hg : DecG d') (hf : Fr (one pd) wr w') : DeSt w w' pd bp bq bm d' x ps qs :=
  ⟨he, hg, hf.keep h.hp (ne_of_ty h.hp h.dec.blk (by decide)), hf.keep h.hq (ne_of_ty h.hq h.dec.blk (by decide)), hf.keep h.hm (ne_of_ty h.hm h.dec.blk (by decide)), h.fr.trans hf (fun k hk => .inr (by rw [hk]; exact h.hid)), h.hid, h.hip, h.hiq, h.him⟩
theorem DeSt.pset (h : DeSt w wr pd bp bq bm d x ps qs) (k y : Nat) (he : DecAt w' pd d') (hg : DecG d') (hf : Fr (one pd) (wr.setCell ⟨bp, k, none⟩ (.int .u16 (y : Int))) w') : DeSt w w' pd bp bq bm d' x (ps.set k y) qs := by
  refine ⟨he, hg, by rw [← arr_set]; exact hf.keep (block_setCell h.hp _) (ne_of_ty h.hp h.dec.blk (by decide)), hf.keep (block_setCell_other h.hq (ne_of_ty h.hq h.hp (by decide)) _) (ne_of_ty h.hq h.dec.blk (by decide)), hf.keep (block_setCell_other h.hm (ne_of_ty h.hm h.hp (by decide)) _) (ne_of_ty h.hm h.dec.blk (by decide)),
    (h.fr.setCell ⟨bp, k, none⟩ (.int .u16 (y : Int)) (.inr h.hip)).trans hf (fun k hk => .inr (by rw [hk]; exact h.hid)), h.hid, h.hip, h.hiq, h.him⟩
theorem DeSt.qset (h : DeSt w wr pd bp bq bm d x ps qs) (k y : Nat) : DeSt w (wr.setCell ⟨bq, k, none⟩ (.int .u64 (y : Int))) pd bp bq bm d x ps (qs.set k y) := by
  have hF : Fr (fun i => i = bq) wr (wr.setCell ⟨bq, k, none⟩ (.int .u64 (y : Int))) := (Fr.refl _ _).setCell _ _ (.inl rfl)
  exact ⟨h.dec.keep hF (ne_of_ty h.dec.blk h.hq (by decide)), h.g, hF.keep h.hp (ne_of_ty h.hp h.hq (by decide)), by rw [← arr64_set]; exact block_setCell h.hq _, hF.keep h.hm (ne_of_ty h.hm h.hq (by decide)), h.fr.setCell _ _ (.inr h.hiq), h.hid, h.hip, h.hiq, h.him⟩
/-- The document's decoder is laid back. -/
theorem DeSt.mset (h : DeSt w wr pd bp bq bm d x ps qs) (hf : Fr (fun _ => False) wr w') (y : Rc.D) :
    DeSt w ((((w'.setCell ⟨bm, 0, none⟩ (.string ⟨y.rest.toArray⟩)).setCell ⟨bm, 1, none⟩ (.int .u64 (y.code : Int))).setCell ⟨bm, 2, none⟩ (.int .u64 (y.size : Int))).setCell ⟨bm, 3, none⟩ (.bool y.bad)) pd bp bq bm d y ps qs := by
  have h := h.fresh hf
  have hF : Fr (fun i => i = bm) w' ((((w'.setCell ⟨bm, 0, none⟩ (.string ⟨y.rest.toArray⟩)).setCell ⟨bm, 1, none⟩ (.int .u64 (y.code : Int))).setCell ⟨bm, 2, none⟩ (.int .u64 (y.size : Int))).setCell ⟨bm, 3, none⟩ (.bool y.bad)) :=
    ((((Fr.refl (fun i => i = bm) w').setCell ⟨bm, 0, none⟩ _ (.inl rfl)).setCell ⟨bm, 1, none⟩ _ (.inl rfl)).setCell ⟨bm, 2, none⟩ _ (.inl rfl)).setCell ⟨bm, 3, none⟩ _ (.inl rfl)
  exact ⟨h.dec.keep hF (ne_of_ty h.dec.blk h.hm (by decide)), h.g, hF.keep h.hp (ne_of_ty h.hp h.hm (by decide)), hF.keep h.hq (ne_of_ty h.hq h.hm (by decide)), blk_set4 h.hm _ _ _ _, fr_set4 h.fr h.him _ _ _ _, h.hid, h.hip, h.hiq, h.him⟩
end Go.Proofs.Ytpddocehjljofaa
