/- Walks of layer 3 (rc): the decoder. -/
import Derived.Test.YtopnnbhiehljlaaEnc2
import Derived.Test.YtopnnbhiehljlaaRcO
import Derived.Laws.BitsLemmas
namespace Go.Proofs.Ytopnnbhiehljlaa
set_option linter.unusedVariables false
open Go.RowKit Go.My

/-- A decoder: its struct at block p. -/
structure DecAt (w : World) (p : Nat) (d : Rc.D) : Prop where
  blk : w.heap[p]? = some (.cells #[.string ⟨d.rest.toArray⟩, .int .u32 (d.code : Int), .int .u32 (d.size : Int), .int .u32 (d.part : Int), .bool d.bad] 116 (0, 0))
def one (p : Nat) : Nat → Prop := fun k => k = p
theorem DecAt.keep {w w' : World} {p : Nat} {d : Rc.D} {S : Nat → Prop} (h : DecAt w p d) (hf : Fr S w w') (hs : ¬ S p) : DecAt w' p d := ⟨hf.keep h.blk hs⟩
theorem DecAt.drewN {w : World} {p : Nat} {d : Rc.D} (h : DecAt w p d) (n : Nat) : DecAt (w.drewN n) p d := ⟨h.blk⟩
theorem DecAt.drew {w : World} {p : Nat} {d : Rc.D} (h : DecAt w p d) : DecAt w.drew p d := ⟨h.blk⟩
theorem DecAt.cells {w : World} {p : Nat} {d : Rc.D} (h : DecAt w p d) :
    w.cell? ⟨p, 0, none⟩ = some (.string ⟨d.rest.toArray⟩) ∧ w.cell? ⟨p, 1, none⟩ = some (.int .u32 (d.code : Int)) ∧ w.cell? ⟨p, 2, none⟩ = some (.int .u32 (d.size : Int)) ∧ w.cell? ⟨p, 3, none⟩ = some (.int .u32 (d.part : Int)) ∧ w.cell? ⟨p, 4, none⟩ = some (.bool d.bad) ∧
      (∀ i, w.frozen? ⟨p, i, none⟩ = false) := by
  refine ⟨?_, ?_, ?_, ?_, ?_, fun i => free_of h.blk i⟩ <;> rw [cell_of h.blk] <;> rfl
theorem DecAt.set {w : World} {p : Nat} {d d' : Rc.D} (h : DecAt w p d) (i : Nat) (u : Value)
    (hu : (#[.string ⟨d.rest.toArray⟩, .int .u32 (d.code : Int), .int .u32 (d.size : Int), .int .u32 (d.part : Int), .bool d.bad] : Array Value).setIfInBounds i u = #[.string ⟨d'.rest.toArray⟩, .int .u32 (d'.code : Int), .int .u32 (d'.size : Int), .int .u32 (d'.part : Int), .bool d'.bad]) :
    DecAt (w.setCell ⟨p, i, none⟩ u) p d' ∧ Fr (one p) w (w.setCell ⟨p, i, none⟩ u) := ⟨⟨by rw [block_setCell h.blk, hu]⟩, (Fr.refl _ _).setCell _ _ (.inl rfl)⟩
theorem DecAt.far {w : World} {p : Nat} {d : Rc.D} (h : DecAt w p d) {q : Addr} (hq : q.block ≠ p) (u : Value) : DecAt (w.setCell q u) p d :=
  h.keep (S := fun k => k = q.block) ((Fr.refl _ _).setCell _ _ (.inl rfl)) (fun e => hq e.symm)
theorem one_trans {p : Nat} {a b c : World} (h : Fr (one p) a b) (k : Fr (one p) b c) : Fr (one p) a c := h.trans k (fun _ h => .inl h)

theorem cut1 (b : UInt8) (r : List UInt8) : (ByteArray.mk (b :: r).toArray).extract 1 (ByteArray.mk (b :: r).toArray).size = ⟨r.toArray⟩ := by
  apply ByteArray.ext
  rw [ByteArray.data_extract]
  apply Array.ext'
  rw [Array.toList_extract]
  simp [ByteArray.size]

set_option maxHeartbeats 1000000 in
set_option maxRecDepth 100000 in
theorem dec_next (p : Nat) (d : Rc.D) (w : World) (h : DecAt w p d) (hl : d.rest.length ≤ 1000000000) :
    Calls Try.prog 60 #[.pointer (some ⟨p, 0, none⟩)] w fun r w' => r = .returned (.int .u8 (d.next.1 : Int)) ∧ DecAt w' p d.next.2 ∧ Fr (one p) w w' := by
  obtain ⟨d0, d1, d2, d3, d4, fr⟩ := h.cells
  have f0 := fr 0
  have f4 := fr 4
  have H := Lib.hid h
  have Hl := Lib.hid hl
  clear h hl fr
  cases hr : d.rest with
  | nil =>
    rw [hr] at d0
    have e1 : d.next = (0, { d with bad := true }) := by unfold Rc.D.next; rw [hr]
    rw [e1]
    have hk := H.out.set (d' := { d with bad := true }) 4 (.bool true) (by simp)
    have HK := Lib.hid hk
    clear hr e1 hk Hl
    go_enter Try.func60, Try.ntmps60
    go_wp2
    go_ret
    exact ⟨rfl, HK.out⟩
  | cons b r =>
    rw [hr] at d0
    have e1 : d.next = (b.toNat, { d with rest := r }) := by unfold Rc.D.next; rw [hr]
    rw [e1]
    have hk := H.out.set (d' := { d with rest := r }) 0 (.string ⟨r.toArray⟩) (by simp)
    have HK := Lib.hid hk
    have hsz : (ByteArray.mk (b :: r).toArray).size = r.length + 1 := by simp [ByteArray.size]
    have hne : (ByteArray.mk (b :: r).toArray).toList.isEmpty = false := by rw [ByteArray.toList_eq]; rfl
    have hcut := cut1 b r
    rw [hsz] at hcut
    have hl : (r.length : Int) + 1 ≤ 1000000000 := by have := Hl.out; rw [hr] at this; simp at this; omega
    have hget : ∀ h : 0 < (ByteArray.mk (b :: r).toArray).size, (ByteArray.mk (b :: r).toArray)[0] = b := fun _ => rfl
    clear hr e1 hk Hl
    generalize ByteArray.mk (b :: r).toArray = s at *
    have hsz' : (0 : Int) < (s.size : Int) := by omega
    have hsz2 : (s.size : Int) ≤ 1000000000 := by omega
    have Hcut := Lib.hid hcut
    have Hget := Lib.hid hget
    have Hsz := Lib.hid hsz
    clear hcut hget hsz hl
    go_enter Try.func60, Try.ntmps60
    go_wp2
    rename_i h0
    go_ret
    refine ⟨?_, ?_⟩
    · have := Hget.out h0
      show Ending.returned (.int .u8 ((s[0].toNat : Nat) : Int)) = _
      rw [this]
    · rw [Hsz.out, Hcut.out]
      exact HK.out

theorem or8 (c b : Nat) (hb : b < 256) : Go.bits .or .u32 ((c : Int) * 256 % 4294967296) (b : Int) = (((c * 256 + b) % 4294967296 : Nat) : Int) := by
  rw [bits_join .u32 32 (by decide) (fun n h0 h1 => by rw [IntKind.wrap_u32]; omega) 8 _ _ (by omega) (by omega) (by omega) (by omega) (by omega) (by omega)]
  omega
theorem next_lt (d : Rc.D) : d.next.1 < 256 := by
  unfold Rc.D.next
  split
  · show 0 < 256; decide
  · next b r _ => exact b.toNat_lt
theorem next_code (d : Rc.D) : d.next.2.code = d.code ∧ d.next.2.size = d.size ∧ d.next.2.part = d.part ∧ d.next.2.rest.length ≤ d.rest.length := by
  unfold Rc.D.next
  split
  · exact ⟨rfl, rfl, rfl, Nat.le_refl _⟩
  · next b r h => refine ⟨rfl, rfl, rfl, ?_⟩; rw [h]; simp
theorem pull_size (d : Rc.D) : d.pull.size = d.size ∧ d.pull.rest.length ≤ d.rest.length ∧ d.pull.code < 4294967296 := by
  have h := next_code d
  unfold Rc.D.pull
  exact ⟨h.2.1, h.2.2.2, Nat.mod_lt _ (by decide)⟩

set_option maxHeartbeats 2000000 in
set_option maxRecDepth 100000 in
theorem dec_widen (p : Nat) (d : Rc.D) (w : World) (h : DecAt w p d) (hl : d.rest.length ≤ 1000000000) (h1 : 1 ≤ d.size) (h2 : d.size < 4294967296) :
    Calls Try.prog 73 #[.pointer (some ⟨p, 0, none⟩)] w fun r w' => r = .returned (.tuple #[]) ∧ DecAt w' p d.widen ∧ Fr (one p) w w' := by
  have H := Lib.hid h
  have Hl := Lib.hid hl
  have H1 := Lib.hid h1
  have H2 := Lib.hid h2
  clear h hl h1 h2
  go_enter Try.func73, Try.ntmps73
  go_wp2
  go_loopg [] 3 (fun n wr => ∃ (x : Rc.D), n ≤ 3 ∧ Hid (x.widenN n = d.widen) ∧ Hid (1 ≤ x.size ∧ x.size < 4294967296 ∧ 16777216 ≤ x.size * 256 ^ n) ∧ Hid (x.rest.length ≤ 1000000000) ∧ Hid (DecAt wr p x) ∧ Hid (Fr (one p) w wr))
  case atStart => exact ⟨d, Nat.le_refl _, rfl, ⟨H1.out, H2.out, by have := H1.out; omega⟩, Hl.out, H.out, Fr.refl _ _⟩
  case round =>
    obtain ⟨x, hn, hw, hx, hb, HE, HS⟩ := hrel
    clear H Hl H1 H2
    obtain ⟨d0, d1, d2, d3, d4, fr2⟩ := HE.out.cells
    have f2 := fr2 2
    by_cases hlt : x.size < 16777216
    · obtain ⟨m, rfl⟩ : ∃ m, gk = m + 1 := ⟨gk - 1, by
        have := hx.out.2.2
        rcases gk with _ | m
        · simp at this; omega
        · rfl⟩
      have k1 := HE.out.set (d' := { x with size := x.size * 256 }) 2 (.int .u32 ((x.size : Int) * 256)) (by simp)
      have hwr : IntKind.u32.wrap ((x.size : Int) * 256) = (x.size : Int) * 256 := IntWalk.u32_in _ (by omega)
      obtain ⟨y, hy⟩ : ∃ y : Rc.D, { x with size := x.size * 256 } = y := ⟨_, rfl⟩
      rw [hy] at k1
      have hw' : Hid (y.pull.widenN m = d.widen) := by
        have := hw.out
        unfold Rc.D.widenN at this
        rw [if_pos hlt] at this
        rw [← hy]
        exact this
      have hys : y.size = x.size * 256 := by rw [← hy]
      have hyc : y.code = x.code := by rw [← hy]
      have hyr : y.rest = x.rest := by rw [← hy]
      have hx' : Hid (1 ≤ y.pull.size ∧ y.pull.size < 4294967296 ∧ 16777216 ≤ y.pull.size * 256 ^ m) := by
        rw [(pull_size y).1, hys]
        obtain ⟨q1, q2, q3⟩ := hx.out
        refine ⟨by omega, by omega, ?_⟩
        rw [Nat.pow_succ, Nat.mul_comm (256 ^ m), ← Nat.mul_assoc] at q3
        exact q3
      have hb' : Hid (y.pull.rest.length ≤ 1000000000) := by
        have h1 := (pull_size y).2.1
        have h2 := hb.out
        rw [hyr] at h1
        show _ ≤ _
        omega
      have hlt' : decide ((x.size : Int) < 16777216) = true := by simp; omega
      have HK := Lib.hid k1
      have HS1 : Hid (Fr (one p) w (wr.setCell ⟨p, 2, none⟩ (.int .u32 ((x.size : Int) * 256)))) := one_trans HS.out k1.2
      have hb2 : Hid (y.rest.length ≤ 1000000000) := by show _ ≤ _; rw [hyr]; exact hb.out
      clear hy hys hyr k1 HE HS hw hx hb d3 d4 fr2 hlt
      go_upto_region 2 with fail
      clear d0 d1 d2 f2 hlt' hwr
      generalize wr.setCell ⟨p, 2, none⟩ (.int .u32 ((x.size : Int) * 256)) = W at *
      have hnx := dec_next p y W.drew HK.out.1.drew hb2.out
      have d1 := HK.out.1.cells.2.1
      rw [hyc] at d1
      have Hnx := Lib.hid hnx
      have hor : Go.bits .or .u32 (IntKind.u32.wrap ((x.code : Int) * 256)) (IntKind.u32.wrap (y.next.1 : Int)) = (y.pull.code : Int) := by
        rw [IntWalk.u32_in (y.next.1 : Int) (by have := next_lt y; omega), IntKind.wrap_u32, or8 _ _ (next_lt y), ← hyc]; rfl
      have hnc : y.next.2.code = x.code := (next_code y).1.trans hyc
      have Hyc := Lib.hid hyc
      have Hnc := Lib.hid hnc
      clear hnx hyc hnc
      go_region_with (go_at_call 60; refine Hnx.out.mono ?_; rintro r w1 ⟨rfl, h1, h2⟩; have HE := Lib.hid h1; have HF := Lib.hid h2; have e1 : w1.cell? ⟨p, 1, none⟩ = some (.int .u32 (x.code : Int)) := by { rw [← Hnc.out]; exact h1.cells.2.1 }; have g1 := h1.cells.2.2.2.2.2 1; clear h1 h2)
      all_goals go_wp2
      all_goals go_roundg m
      all_goals first | omega | skip
      all_goals have k3 := HE.out.set (d' := y.pull) 1 (.int .u32 (y.pull.code : Int)) (by simp [Rc.D.pull])
      all_goals exact ⟨y.pull, by omega, hw', hx', hb', k3.1, one_trans HS1.out (one_trans ((Fr.refl _ _).drew) (one_trans HF.out k3.2))⟩
    · have hfin : x = d.widen := by
        have := hw.out
        rcases gk with _ | m
        · exact this
        · unfold Rc.D.widenN at this
          rw [if_neg hlt] at this
          exact this
      have Hfin := Lib.hid hfin
      have hlt' : decide ((x.size : Int) < 16777216) = false := by simp; omega
      clear hfin hw hx hb d0 d3 d4 fr2 hlt
      go_wp2
      go_end0
      exact ⟨rfl, by rw [← Hfin.out]; exact HE.out, HS.out⟩

set_option maxHeartbeats 1000000 in
set_option maxRecDepth 100000 in
theorem dec_bad (p : Nat) (d : Rc.D) (w : World) (h : DecAt w p d) : Calls Try.prog 47 #[.pointer (some ⟨p, 0, none⟩)] w fun r w' => r = .returned (.bool d.bad) ∧ w = w' := by
  obtain ⟨d0, d1, d2, d3, d4, fr⟩ := h.cells
  clear h fr
  go_enter Try.func47, Try.ntmps47
  go_wp2
  go_ret
  exact ⟨rfl, rfl⟩
set_option maxRecDepth 100000 in
theorem dec_bad_nil (w : World) : Calls Try.prog 47 #[.pointer none] w fun r w' => r = .returned (.bool true) ∧ w = w' := by
  go_enter Try.func47, Try.ntmps47
  go_wp2
  go_ret
  exact ⟨rfl, rfl⟩
set_option maxRecDepth 100000 in
theorem dec_done_nil (w : World) : Calls Try.prog 48 #[.pointer none] w fun r w' => r = .returned (.bool false) ∧ w = w' := by
  go_enter Try.func48, Try.ntmps48
  go_wp2
  go_ret
  exact ⟨rfl, rfl⟩
set_option maxHeartbeats 1000000 in
set_option maxRecDepth 100000 in
theorem dec_done (p : Nat) (d : Rc.D) (w : World) (h : DecAt w p d) : Calls Try.prog 48 #[.pointer (some ⟨p, 0, none⟩)] w fun r w' => r = .returned (.bool d.done) ∧ w = w' := by
  obtain ⟨d0, d1, d2, d3, d4, fr⟩ := h.cells
  have he : (ByteArray.mk d.rest.toArray).toList.isEmpty = d.rest.isEmpty := by rw [ByteArray.toList_eq]
  have hd : d.done = (d.rest.isEmpty && ((d.code : Int) == 0)) := by
    unfold Rc.D.done
    congr 1
    rw [Bool.eq_iff_iff]; simp
  rw [hd]
  generalize ByteArray.mk d.rest.toArray = s at *
  generalize d.rest.isEmpty = x at *
  clear h fr hd
  cases x
  · go_enter Try.func48, Try.ntmps48
    go_wp2
    go_ret
    exact ⟨rfl, rfl⟩
  · have ht : ∃ t, ((d.code : Int) == 0) = t := ⟨_, rfl⟩
    obtain ⟨t, ht⟩ := ht
    rw [ht]
    cases t
    · go_enter Try.func48, Try.ntmps48
      go_wp2
      go_ret
      exact ⟨rfl, rfl⟩
    · go_enter Try.func48, Try.ntmps48
      go_wp2
      go_ret
      exact ⟨rfl, rfl⟩
end Go.Proofs.Ytopnnbhiehljlaa
