/- Walks of layer 3 (rc): the encoder's beginning and its end. -/
import Derived.Test.YtopnnbhiehljlaaEnc3
namespace Go.Proofs.Ytopnnbhiehljlaa
set_option linter.unusedVariables false
open Go.RowKit Go.My

set_option maxRecDepth 100000 in
theorem enc_new (w : World) : Calls Try.prog 38 #[] w fun r w' => r = .returned (.pointer (some ⟨w.heap.size, 0, none⟩)) ∧ EncO w' w.heap.size (.slice none 0 0) [] ∧ Fr (fun _ => False) w w' := by
  go_enter Try.func38, Try.ntmps38
  go_wp2
  go_ret
  exact ⟨rfl, ⟨⟨heap_alloc_new w _, World.ownsRow_nil _ _ _ _⟩, Rc.AllFine.nil⟩, (Fr.refl _ _).alloc _⟩

theorem own_text {w : World} {B n : Nat} {v : Value} {bs : List UInt8} (h : w.ownsRow B 5 1 v n (bytesV bs)) : (convert 39 9 v).run Try.prog w = .ok (.string ⟨bs.toArray⟩) w := by
  have hl : bs.length = n := by have := h.1; simp [bytesV] at this; exact this
  have e : strOfNums (bs.map fun b => (b.toNat : Int)) = ⟨bs.toArray⟩ := by
    unfold strOfNums
    congr 2
    rw [List.map_map]
    conv => rhs; rw [← List.map_id bs]
    exact List.map_congr_left (fun b _ => by simp)
  rw [← e]
  rcases h.2 with ⟨rfl, rfl⟩ | ⟨g, cap, cur, rfl, _⟩
  · obtain rfl : bs = [] := List.eq_nil_of_length_eq_zero hl
    exact run_convert_bytes_nil w 39 5 Try.underlying39 Try.underlying5 0 0 9 Try.underlying9
  · refine run_convert_bytes_arg w 39 5 Try.underlying39 Try.underlying5 g 0 n cap _ (by simpa using hl) (fun i hi => ?_) 9 Try.underlying9
    have hc := h.cells (g := g) rfl i (.int .u8 ((bs.map fun b => (b.toNat : Int)).getD i 0)) (by simp [bytesV, List.getD, List.getElem?_eq_getElem (show i < bs.length by omega)])
    have hplain : (⟨g, 0, none⟩ : Addr).add i = ⟨g, 0 + i, none⟩ := by unfold Addr.add; split <;> simp_all
    rw [hplain] at hc
    exact hc

def E.shiftN : Nat → Rc.E → Rc.E
  | 0, e => e
  | n + 1, e => E.shiftN n e.shift

theorem shiftN_out (e : Rc.E) : (E.shiftN 5 e).out = e.ended := rfl
theorem EncAt.copied {w W w1 : World} {q : Nat} {e : Rc.E} {v0 : Value} (hq : W.heap[q]? = some (.cells #[.int .u64 (e.low : Int), .int .u32 (e.size : Int), .int .u8 (e.cache : Int), .int .i64 (e.pend : Int), v0] 105 (0, 0)))
    (hW : Fr (fun _ => False) w W) (hqw : w.heap.size ≤ q) (g cap n : Nat) (hn : n = e.out.length)
    (hown : w1.ownsRow 0 5 1 (.slice (some ⟨g, 0, none⟩) n cap) n (bytesV e.out)) (hgr : W.grownBy w1 none) (H : Nat) (hH : W.heap.size ≤ H) (hat : g = H) :
    EncAt (w1.setCell ⟨q, 4, none⟩ (.slice (some ⟨g, 0, none⟩) n cap)) q e (.slice (some ⟨g, 0, none⟩) n cap) ∧ Fr (fun _ => False) w (w1.setCell ⟨q, 4, none⟩ (.slice (some ⟨g, 0, none⟩) n cap)) ∧
      (∀ k, encFoot q (.slice (some ⟨g, 0, none⟩) n cap) k → w.heap.size ≤ k) ∧ w1.cell? ⟨q, 4, none⟩ = some v0 ∧ w1.frozen? ⟨q, 4, none⟩ = false := by
  subst hn
  have hlt := lt_of_block hq
  have hne : q ≠ g := by omega
  have hb1 := (hgr.block q hlt (fun h => by cases h)).trans hq
  have hfr : Fr (fun _ => False) w w1 := hW.grown hgr (fun k hk => by cases hk)
  have hs := hW.size
  refine ⟨⟨by simpa using block_setCell hb1 (off := 4) _, own_keep (S := fun k => k = q) hown ((Fr.refl _ _).setCell ⟨q, 4, none⟩ _ (.inl rfl)) (by simp [Value.ownBlock]; exact fun e => hne e.symm)⟩, hfr.setCell _ _ (.inr hqw), ?_, cell_of hb1 4, free_of hb1 4⟩
  rintro k (rfl | hk)
  · exact hqw
  · have hk' : k = g := by simpa [Value.ownBlock, eq_comm] using hk
    omega

set_option maxHeartbeats 1000000 in
set_option maxRecDepth 100000 in
theorem enc_end (p : Nat) (e : Rc.E) (v : Value) (w : World) (h : EncAt w p e v) (h2 : e.low < 8589934592) (hn : e.out.length + e.pend ≤ 900000000) :
    Calls Try.prog 40 #[.pointer (some ⟨p, 0, none⟩)] w fun r w' => r = .returned (.string ⟨e.ended.toArray⟩) ∧ Fr (fun _ => False) w w' := by
  obtain ⟨i0, hi, hz0, hz1, hz2⟩ := info_parts info5
  obtain ⟨d0, d1, d2, d3, d4, fr⟩ := h.cells
  obtain ⟨a, cap, rfl⟩ := own_any h.own
  have H := Lib.hid h
  have H2 := Lib.hid h2
  have Hn := Lib.hid hn
  have Hi := Lib.hid hi
  have Hz0 := Lib.hid hz0
  have Hz1 := Lib.hid hz1
  have Hz2 := Lib.hid hz2
  have hp := lt_of_block h.blk
  obtain ⟨n, hN⟩ : ∃ n, e.out.length = n := ⟨_, rfl⟩
  rw [hN] at d4
  have HN := Lib.hid hN
  clear h h2 hn hi hz0 hz1 hz2 fr hN
  go_enter Try.func40, Try.ntmps40
  go_upto_region 4 with fail
  go_cut [13] (fun _ wx => ∃ v', Hid (EncAt wx w.heap.size e v') ∧ Hid (Fr (fun _ => False) w wx) ∧ Hid (∀ k, encFoot w.heap.size v' k → w.heap.size ≤ k))
  case first =>
    by_cases h0 : n = 0
    · subst h0
      have hout : e.out = [] := List.eq_nil_of_length_eq_zero HN.out
      have Hout := Lib.hid hout
      clear hout
      go_wp2_with (at_builtin; refine wpList_append_empty _ rfl _ _ 39 rfl 5 i0 Try.underlying39 Hi.out a cap (by rfl) (by rfl) ?_)
      go_meet
      refine ⟨.slice none 0 0, ⟨heap_alloc_new w _, ?_⟩, (Fr.refl _ _).alloc _, ?_⟩
      · rw [Hout.out]; exact World.ownsRow_nil _ _ _ _
      · rintro k (rfl | hk)
        · exact Nat.le_refl _
        · cases hk
    · obtain ⟨g, cap1, hv⟩ := own_slice H.out.own (by have := HN.out; omega)
      obtain ⟨rfl, rfl⟩ : a = some ⟨g, 0, none⟩ ∧ cap = cap1 := by injection hv with h1 h2 h3; exact ⟨h1, h3⟩
      clear hv
      have hl1 : 0 < n := by omega
      have hl2 : 0 + n ≤ maxLen := by have := Hn.out; have := HN.out; unfold maxLen; omega
      have hl3 : (0 + n) * 1 ≤ 140737488355328 := by have := Hn.out; have := HN.out; omega
      go_wp2_with (at_builtin; refine wpList_append_my _ rfl _ _ 39 rfl 0 5 i0 (.int .u8 0) 1 1 Try.underlying39 Hi.out Hz0.out Hz1.out Hz2.out rfl (by decide) (.slice none 0 0) 0 [] (by rfl) (World.ownsRow_nil _ _ _ _) ⟨g, 0, none⟩ n cap (bytesV e.out) (by rfl) (by simp [bytesV, HN.out]) (H.out.own.alloc _ |>.cells (g := g) rfl) (by simp [bytesV, Value.oneCell']) hl1 hl2 hl3 (by simp) (w.heap.size + 1) (by simp) ?_; intro g2 cap2 w1 hown1 hgrow hat hlt2 hsame; obtain ⟨hE, hS, hF, e4, f4⟩ := EncAt.copied (heap_alloc_new w _) ((Fr.refl _ _).alloc _) (Nat.le_refl _) g2 cap2 (0 + n) (by have := HN.out; omega) (by simpa using hown1) hgrow (w.heap.size + 1) (by simp) (by rcases hat with h | h; exact absurd h (by simp [Value.ownBlock]); exact h); simp only [Nat.zero_add] at hE hS hF e4; have HE := Lib.hid hE; have HS := Lib.hid hS; have HF := Lib.hid hF; clear hE hS hF hown1 hgrow hat hlt2 hsame)
      go_meet
      exact ⟨_, HE, HS, HF⟩
  case rest =>
    obtain ⟨v1, HE, HS, HF⟩ := hcut
    clear d0 d1 d2 d3 d4 H
    go_wp2
    go_loopw [15] (fun v15 wr => ∃ (i : Nat) (x : Rc.E) (v' : Value), i ≤ 5 ∧ v15 = .int .i64 (i : Int) ∧ Hid (E.shiftN (5 - i) x = E.shiftN 5 e) ∧ Hid (x.low < 8589934592) ∧ Hid (x.out.length + x.pend ≤ 900000000 + i) ∧ Hid (EncAt wr w.heap.size x v') ∧ Hid (Fr (fun _ => False) w wr) ∧ Hid (∀ k, encFoot w.heap.size v' k → w.heap.size ≤ k)) (fun v15 _ => 5 - (intOf v15).toNat)
    case atStart => exact ⟨0, e, v1, by omega, rfl, rfl, H2.out, Hn.out, HE, HS, HF⟩
    case round =>
      obtain ⟨i, x, v', hi, rfl, hsh, hlow, hlen, HE2, HS2, HF2⟩ := hrel
      clear HE HS HF
      by_cases hlt : i < 5
      · have hstep := enc_shift w.heap.size x v' wr HE2.out hlow.out (by have := hlen.out; omega)
        have Hstep := Lib.hid hstep
        clear hstep
        go_wp2_with (go_at_call 57; refine Hstep.out.mono ?_; rintro r w1 ⟨rfl, v2, h1, h2⟩; have HE := Lib.hid h1; have HS := Lib.hid h2; clear h1 h2)
        go_roundw
        case rel =>
          refine ⟨i + 1, x.shift, v2, by omega, by go_num, ?_, ?_, ?_, HE, HS2.out.trans HS.out.fr (fun k hk => .inr (HF2.out k hk)), fun k hk => ?_⟩
          · show _ = _
            rw [← hsh.out, show 5 - i = (5 - (i + 1)) + 1 by omega]; rfl
          · show _ < _; have := shift_low_lt x; omega
          · show _ ≤ _; have := shift_len x; have := hlen.out; omega
          · rcases HS.out.foot k hk with h | h
            · exact HF2.out k h
            · exact Nat.le_trans HS2.out.size h
        case measure => simp [intOf]; omega
      · obtain rfl : i = 5 := by omega
        have hx : x = E.shiftN 5 e := hsh.out
        have hconv := own_text HE2.out.own
        have hout : x.out = e.ended := by rw [hx]; rfl
        have Hout := Lib.hid hout
        have d4 := HE2.out.cells.2.2.2.2.1
        clear hx hsh hlt hout
        obtain ⟨a2, cap2, rfl⟩ := own_any HE2.out.own
        go_wp2
        go_ret
        refine ⟨?_, HS2.out⟩
        rw [← Hout.out]
        rfl

theorem end_ops (p : Nat) (v : Value) (ops : List Rc.Op) (w : World) (h : EncO w p v ops) (hn : ops.length ≤ 100000000) :
    Calls Try.prog 40 #[.pointer (some ⟨p, 0, none⟩)] w fun r w' => r = .returned (.string ⟨(Rc.bytes ops).toArray⟩) ∧ Fr (fun _ => False) w w' :=
  enc_end p _ v w h.at_ (by have := h.rel.low; exact this) (by have := h.len; omega)
end Go.Proofs.Ytopnnbhiehljlaa
