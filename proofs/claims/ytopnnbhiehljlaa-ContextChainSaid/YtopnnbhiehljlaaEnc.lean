/- Walks of layer 3 (rc): the encoder. -/
import Derived.Test.YtopnnbhiehljlaaProg
import Derived.Test.YtopnnbhiehljlaaFr
import Derived.Test.YtopnnbhiehljlaaApp
import Derived.Test.YtopnnbhiehljlaaRcM
import Derived.WalkKit
import Derived.Deep.QuietTactic
import Derived.BigQuiet
import Derived.KernelRfl
import Derived.Maps.AppendAt
import Derived.Deep.AppendLies
import Derived.Deep.RegionHeld3
import Derived.Deep.RegionLaw
import Derived.BigRegion
import Derived.Lib.Hide
import Derived.WalkSpells
import Derived.Deep.DeepCutAuto
import Derived.Laws.BytesArg
namespace Go.Proofs.Ytopnnbhiehljlaa
set_option linter.unusedVariables false
open Go.RowKit Go.My

theorem info5 : (Try.prog.info? 5).map (fun i => (i.zero, i.size, i.bytes)) = some (some (.int .u8 0), 1, 1) := by kernel_rfl

/-- An encoder: its struct at block p, its bytes in the row of v. -/
structure EncAt (w : World) (p : Nat) (e : Rc.E) (v : Value) : Prop where
  blk : w.heap[p]? = some (.cells #[.int .u64 (e.low : Int), .int .u32 (e.size : Int), .int .u8 (e.cache : Int), .int .i64 (e.pend : Int), v] 105 (0, 0))
  own : w.ownsRow 0 5 1 v e.out.length (bytesV e.out)
def encFoot (p : Nat) (v : Value) : Nat → Prop := fun k => k = p ∨ v.ownBlock = some k

theorem EncAt.apart {w : World} {p : Nat} {e : Rc.E} {v : Value} (h : EncAt w p e v) : v.ownBlock ≠ some p := fun he => by
  obtain ⟨cur, hc⟩ := own_ty h.own he
  exact ne_of_ty hc h.blk (by decide) rfl
theorem EncAt.keep {w w' : World} {p : Nat} {e : Rc.E} {v : Value} {S : Nat → Prop} (h : EncAt w p e v) (hf : Fr S w w') (hs : ∀ k, encFoot p v k → ¬ S k) : EncAt w' p e v :=
  ⟨hf.keep h.blk (hs p (.inl rfl)), own_keep h.own hf (fun k hk => hs k (.inr hk))⟩
theorem EncAt.drewN {w : World} {p : Nat} {e : Rc.E} {v : Value} (h : EncAt w p e v) (n : Nat) : EncAt (w.drewN n) p e v := ⟨h.blk, h.own⟩
theorem EncAt.drew {w : World} {p : Nat} {e : Rc.E} {v : Value} (h : EncAt w p e v) : EncAt w.drew p e v := ⟨h.blk, h.own⟩
theorem EncAt.cells {w : World} {p : Nat} {e : Rc.E} {v : Value} (h : EncAt w p e v) :
    w.cell? ⟨p, 0, none⟩ = some (.int .u64 (e.low : Int)) ∧ w.cell? ⟨p, 1, none⟩ = some (.int .u32 (e.size : Int)) ∧ w.cell? ⟨p, 2, none⟩ = some (.int .u8 (e.cache : Int)) ∧ w.cell? ⟨p, 3, none⟩ = some (.int .i64 (e.pend : Int)) ∧ w.cell? ⟨p, 4, none⟩ = some v ∧
      (∀ i, w.frozen? ⟨p, i, none⟩ = false) := by
  refine ⟨?_, ?_, ?_, ?_, ?_, fun i => free_of h.blk i⟩ <;> rw [cell_of h.blk] <;> rfl
/-- A field is laid. -/
theorem EncAt.set {w : World} {p : Nat} {e e' : Rc.E} {v : Value} (h : EncAt w p e v) (i : Nat) (u : Value)
    (hu : (#[.int .u64 (e.low : Int), .int .u32 (e.size : Int), .int .u8 (e.cache : Int), .int .i64 (e.pend : Int), v] : Array Value).setIfInBounds i u = #[.int .u64 (e'.low : Int), .int .u32 (e'.size : Int), .int .u8 (e'.cache : Int), .int .i64 (e'.pend : Int), v]) (ho : e'.out = e.out) :
    EncAt (w.setCell ⟨p, i, none⟩ u) p e' v ∧ Step w (w.setCell ⟨p, i, none⟩ u) (encFoot p v) (encFoot p v) := by
  refine ⟨⟨by rw [block_setCell h.blk, hu], ?_⟩, ⟨(Fr.refl _ _).setCell _ _ (.inl (.inl rfl)), fun k hk => .inl hk⟩⟩
  rw [ho]
  exact own_keep (S := fun k => k = p) h.own ((Fr.refl _ _).setCell _ _ (.inl rfl)) (fun k hk e => h.apart (e ▸ hk))

set_option maxHeartbeats 1000000 in
set_option maxRecDepth 100000 in
theorem shift_keep (p : Nat) (e : Rc.E) (v : Value) (w : World) (h : EncAt w p e v) (h1 : 4278190080 ≤ e.low) (h2 : e.low < 4294967296) (hn : e.out.length + e.pend ≤ 1000000000) :
    Calls Try.prog 57 #[.pointer (some ⟨p, 0, none⟩)] w fun r w' => r = .returned (.tuple #[]) ∧ EncAt w' p e.shift v ∧ Step w w' (encFoot p v) (encFoot p v) := by
  have hsh : e.shift = ⟨e.low % 16777216 * 256, e.size, e.cache, e.pend + 1, e.out⟩ := by
    unfold Rc.E.shift
    rw [if_neg (by omega)]
  obtain ⟨c0, c1, c2, c3, c4, fr⟩ := h.cells
  have f0 := fr 0
  have f3 := fr 3
  have H := Lib.hid h
  have Hsh := Lib.hid hsh
  clear h hsh fr
  have t1 : ((e.low : Int) / 4294967296 % 256 == 1) = false := by simp; omega
  have t2 : decide ((e.low : Int) % 4294967296 < 4278190080) = false := by simp; omega
  have hpend : (e.pend : Int) ≤ 1000000000 := by omega
  clear h1 h2 hn
  go_enter Try.func57, Try.ntmps57
  go_wp2
  go_end0
  have k1 := H.out.set (e' := { e with pend := e.pend + 1 }) 3 (.int .i64 ((e.pend : Int) + 1)) (by simp) rfl
  have k2 := k1.1.set (e' := e.shift) 0 (.int .u64 ((e.low : Int) % 4294967296 * 256 % 4294967296)) (by rw [Hsh.out]; simp; omega) (by rw [Hsh.out])
  exact ⟨rfl, k2.1, k1.2.trans k2.2⟩

/-- A byte more, behind the row's append and the store of the slice. -/
theorem EncAt.push {w W w1 : World} {p : Nat} {e : Rc.E} {v : Value} (h : EncAt w p e v) (hW : Fr (fun _ => False) w W) (g cap : Nat) (b : UInt8) (x : Value) (hx : x = .int .u8 (b.toNat : Int))
    (hown : w1.ownsRow 0 5 1 (.slice (some ⟨g, 0, none⟩) (e.out.length + 1) cap) (e.out.length + 1) (bytesV e.out ++ [x]))
    (hgr : W.grownBy w1 v.ownBlock) (H : Nat) (hH : w.heap.size ≤ H) (hat : v.ownBlock = some g ∨ g = H) :
    EncAt (w1.setCell ⟨p, 4, none⟩ (.slice (some ⟨g, 0, none⟩) (e.out.length + 1) cap)) p { e with out := e.out ++ [b] } (.slice (some ⟨g, 0, none⟩) (e.out.length + 1) cap) ∧
      Step w (w1.setCell ⟨p, 4, none⟩ (.slice (some ⟨g, 0, none⟩) (e.out.length + 1) cap)) (encFoot p v) (encFoot p (.slice (some ⟨g, 0, none⟩) (e.out.length + 1) cap)) ∧
      w1.cell? ⟨p, 4, none⟩ = some v ∧ w1.frozen? ⟨p, 4, none⟩ = false := by
  have hlt := lt_of_block h.blk
  have hne : p ≠ g := by
    rintro rfl
    rcases hat with q | q
    · exact h.apart q
    · omega
  have hbW := hW.keep h.blk (fun x => x)
  have hb1 := (hgr.block p (lt_of_block hbW) (fun q => h.apart q.symm)).trans hbW
  have hfr : Fr (encFoot p v) w w1 := (hW.mono (fun _ h => h.elim)).grown hgr (fun k hk => .inl (.inr hk))
  refine ⟨⟨block_setCell hb1 _, ?_⟩, ⟨hfr.setCell _ _ (.inl (.inl rfl)), ?_⟩, cell_of hb1 4, free_of hb1 4⟩
  · have := own_keep (S := fun k => k = p) hown ((Fr.refl _ _).setCell ⟨p, 4, none⟩ (.slice (some ⟨g, 0, none⟩) (e.out.length + 1) cap) (.inl rfl)) (by simp [Value.ownBlock]; exact fun q => hne q.symm)
    rw [bytesV_append]
    simpa [bytesV, hx] using this
  · rintro k (rfl | hk)
    · exact .inl (.inl rfl)
    · have hk' : k = g := by simpa [Value.ownBlock, eq_comm] using hk
      subst hk'
      rcases hat with q | q
      · exact .inl (.inr q)
      · right; omega

theorem u8_sum (a c : Nat) : ((a : Int) + (c : Int)) % 256 = ((UInt8.ofNat (a + c)).toNat : Int) := by simp

set_option maxHeartbeats 4000000 in
set_option maxRecDepth 100000 in
theorem shift_flush (p : Nat) (e : Rc.E) (v : Value) (w : World) (h : EncAt w p e v) (h1 : e.low / 4294967296 = 1 ∨ e.low % 4294967296 < 4278190080) (h2 : e.low < 8589934592) (hn : e.out.length + e.pend ≤ 1000000000) :
    Calls Try.prog 57 #[.pointer (some ⟨p, 0, none⟩)] w fun r w' => r = .returned (.tuple #[]) ∧ ∃ v', EncAt w' p e.shift v' ∧ Step w w' (encFoot p v) (encFoot p v') := by
  obtain ⟨i0, hi, hz0, hz1, hz2⟩ := info_parts info5
  have Hi := Lib.hid hi
  have Hz0 := Lib.hid hz0
  have Hz1 := Lib.hid hz1
  have Hz2 := Lib.hid hz2
  have hsh : e.shift = ⟨e.low % 16777216 * 256, e.size, e.low / 16777216 % 256, 0, e.flush⟩ := by
    unfold Rc.E.shift
    rw [if_pos h1]
  obtain ⟨c0, c1, c2, c3, c4, fr⟩ := h.cells
  have f4 := fr 4
  obtain ⟨a, cap0, rfl⟩ := own_any h.own
  have H := Lib.hid h
  have Hsh := Lib.hid hsh
  have Hn := Lib.hid hn
  have hc : (e.low : Int) / 4294967296 % 256 = ((e.low / 4294967296 : Nat) : Int) := by omega
  have Hc := Lib.hid hc
  have hpend : (e.pend : Int) ≤ 1000000000 := by omega
  have hlen : (e.out.length : Int) ≤ 1000000000 := by omega
  have hb1 : e.out.length + 1 ≤ maxLen := by unfold maxLen; omega
  have hb2 : (e.out.length + 1) * 1 ≤ 140737488355328 := by omega
  have go2 : (e.low : Int) / 4294967296 % 256 = 1 ∨ (e.low : Int) % 4294967296 < 4278190080 := by omega
  have Hgo := Lib.hid go2
  clear h hsh hi hz0 hz1 hz2 fr h1 h2 hn hc go2
  obtain ⟨b, hb⟩ : ∃ b : UInt8, UInt8.ofNat (e.cache + e.low / 4294967296) = b := ⟨_, rfl⟩
  obtain ⟨b2, hb2'⟩ : ∃ b : UInt8, UInt8.ofNat (255 + e.low / 4294967296) = b := ⟨_, rfl⟩
  have hflush : e.flush = (e.out ++ [b]) ++ List.replicate e.pend b2 := by unfold Rc.E.flush; rw [hb, hb2']; simp
  have hw1 : IntKind.u8.wrap ((e.cache : Int) + (e.low : Int) / 4294967296 % 256) = (b.toNat : Int) := by
    rw [Hc.out, ← hb, ← u8_sum, IntKind.wrap_u8]
  have hw2 : IntKind.u8.wrap (255 + (e.low : Int) / 4294967296 % 256) = (b2.toNat : Int) := by
    have := u8_sum 255 (e.low / 4294967296)
    rw [Hc.out, ← hb2', ← this, IntKind.wrap_u8]; rfl
  have Hflush := Lib.hid hflush
  obtain ⟨x, hx⟩ : ∃ x : Int, (b.toNat : Int) = x := ⟨_, rfl⟩
  obtain ⟨y, hy⟩ : ∃ x : Int, (b2.toNat : Int) = x := ⟨_, rfl⟩
  have Hx := Lib.hid hx
  have Hy := Lib.hid hy
  rw [hx] at hw1
  rw [hy] at hw2
  clear hb hb2' hflush hx hy Hc
  have Hw2 := Lib.hid hw2
  clear hw2
  have tests : ∃ t, ((e.low : Int) / 4294967296 % 256 == 1) = t ∧ (t = false → decide ((e.low : Int) % 4294967296 < 4278190080) = true) := by
    refine ⟨_, rfl, fun h => ?_⟩
    have h' : ¬ (e.low : Int) / 4294967296 % 256 = 1 := by simpa using h
    exact decide_eq_true (Hgo.out.resolve_left h')
  obtain ⟨t, t1, t2⟩ := tests
  have c4a : (w.alloc (.cells #[.int .u8 x] 5)).cell? ⟨p, 4, none⟩ = some (.slice a e.out.length cap0) := (block_alloc_cell _ (lt_of_block H.out.blk)).trans c4
  clear Hgo
  cases t
  all_goals
    first | (have t2 := t2 rfl) | clear t2
    go_enter Try.func57, Try.ntmps57
    go_upto_region 2 with fail
    (try clear t2)
    clear t1
    generalize (e.low : Int) / 4294967296 % 256 = C at *
    go_cut [31] (fun _ wx => ∃ v1, Hid (EncAt wx p { e with out := e.out ++ [b] } v1) ∧ Hid (Step w wx (encFoot p (.slice a e.out.length cap0)) (encFoot p v1)))
    case first =>
      go_region_law ((refine step_append_my _ (by rfl) _ _ _ (by rfl) 0 5 i0 (.int .u8 0) 1 1 Try.underlying39 Hi.out Hz0.out Hz1.out Hz2.out rfl (by omega) (.slice a e.out.length cap0) e.out.length (bytesV e.out) (by rfl) ((H.out.own.alloc _).drew) ⟨w.heap.size, 0, none⟩ 1 1 [.int .u8 x] (by rfl) (by rfl) (World.news_of_block (cs := #[.int .u8 x]) (t := 5) (fr := (0, 0)) (heap_alloc_new w _)) (by simp [Value.oneCell']) (by omega) hb1 hb2 (by simp) (w.heap.size + 1) (by simp) ?_; intro g cap w1 hown1 hgrow hat hlt hsame; obtain ⟨hE, hS, d4, g4⟩ := EncAt.push H.out (((Fr.refl _ _).alloc _).drew) g cap b (.int .u8 x) (by rw [Hx.out]) hown1 hgrow (w.heap.size + 1) (by omega) hat; have HE := Lib.hid hE; have HS := Lib.hid hS; clear hE hS hown1 hgrow hat hlt hsame))
      all_goals go_wp2
      all_goals go_meet
      all_goals exact ⟨_, HE, HS⟩
    case rest =>
      clear c0 c1 c2 c3 c4 c4a f4 H hw1
      obtain ⟨v1, HE, HS⟩ := hcut
      obtain ⟨c0, c1, c2, c3, c4, fr⟩ := HE.out.cells
      go_wp2
      go_loopw [38] (fun v38 wr => ∃ (i : Nat) (v' : Value), i ≤ e.pend ∧ v38 = .int .i64 (i : Int) ∧ Hid (EncAt wr p { e with out := (e.out ++ [b]) ++ List.replicate i b2 } v') ∧ Hid (Step w wr (encFoot p (.slice a e.out.length cap0)) (encFoot p v'))) (fun v38 _ => e.pend - (intOf v38).toNat)
      case atStart => exact ⟨0, v1, Nat.zero_le _, rfl, by simpa using HE, HS⟩
      case round =>
        obtain ⟨i, v', hi, rfl, HE2, HS2⟩ := hrel
        clear HE HS c0 c1 c2 c3 c4 fr
        obtain ⟨d0, d1, d2, d3, d4, fr2⟩ := HE2.out.cells
        have g3 := fr2 3
        have g2 := fr2 2
        have g0 := fr2 0
        by_cases hlt : i < e.pend
        · have hO : ∃ O, e.out ++ [b] ++ List.replicate i b2 = O ∧ e.out ++ [b] ++ List.replicate (i + 1) b2 = O ++ [b2] := ⟨_, rfl, by rw [List.replicate_succ']; simp only [List.append_assoc]⟩
          obtain ⟨O, hO, hO2⟩ := hO
          have hl : O.length ≤ 1000000001 := by have := Hn.out; rw [← hO]; simp; omega
          have HO2 := Lib.hid hO2
          rw [hO] at HE2
          have hb3 : O.length + 1 ≤ maxLen := by unfold maxLen; omega
          have hb4 : (O.length + 1) * 1 ≤ 140737488355328 := by omega
          have hw2 := Hw2.out
          have hi2 : (i : Int) < (e.pend : Int) := by omega
          obtain ⟨a2, cap2, rfl⟩ := own_any HE2.out.own
          clear hO hO2 hi hl d0 d1 d2 d3 fr2
          go_wp2_with (at_builtin; refine wpList_append_my _ rfl _ _ 39 rfl 0 5 i0 (.int .u8 0) 1 1 Try.underlying39 Hi.out Hz0.out Hz1.out Hz2.out rfl (by decide) (.slice a2 O.length cap2) O.length (bytesV O) (by rfl) (HE2.out.own.alloc _) ⟨wr.heap.size, 0, none⟩ 1 1 [.int .u8 y] (by rfl) (by rfl) (World.news_of_block (cs := #[.int .u8 y]) (t := 5) (fr := (0, 0)) (heap_alloc_new wr _)) (by simp [Value.oneCell']) (by omega) hb3 hb4 (by simp) (wr.heap.size + 1) (by simp) ?_; intro g cap w1 hown1 hgrow hat hlt2 hsame; obtain ⟨hE, hS, e4, f4⟩ := EncAt.push HE2.out ((Fr.refl _ _).alloc _) g cap b2 (.int .u8 y) (by rw [Hy.out]) hown1 hgrow (wr.heap.size + 1) (by omega) hat; have HE := Lib.hid hE; have HS : Hid _ := Lib.hid (HS2.out.trans hS); clear hE hS hown1 hgrow hat hlt2 hsame)
          go_roundw
          case rel => exact ⟨i + 1, _, by omega, by go_num, by rw [HO2.out]; exact HE, HS⟩
          case measure => simp [intOf]; omega
        · obtain rfl : i = e.pend := by omega
          rw [← Hflush.out] at HE2
          clear Hw2 hlt
          go_wp2
          go_end0
          have k1 := HE2.out.set (e' := { e with pend := 0, out := e.flush }) 3 (.int .i64 0) (by simp) rfl
          have k2 := k1.1.set (e' := { e with pend := 0, cache := e.low / 16777216 % 256, out := e.flush }) 2 (.int .u8 ((e.low : Int) / 16777216 % 256)) (by simp) rfl
          have k3 := k2.1.set (e' := e.shift) 0 (.int .u64 ((e.low : Int) % 4294967296 * 256 % 4294967296)) (by rw [Hsh.out]; simp; omega) (by rw [Hsh.out])
          exact ⟨rfl, _, k3.1, HS2.out.trans (k1.2.trans (k2.2.trans k3.2))⟩
theorem enc_shift (p : Nat) (e : Rc.E) (v : Value) (w : World) (h : EncAt w p e v) (h2 : e.low < 8589934592) (hn : e.out.length + e.pend ≤ 1000000000) :
    Calls Try.prog 57 #[.pointer (some ⟨p, 0, none⟩)] w fun r w' => r = .returned (.tuple #[]) ∧ ∃ v', EncAt w' p e.shift v' ∧ Step w w' (encFoot p v) (encFoot p v') := by
  by_cases h1 : e.low / 4294967296 = 1 ∨ e.low % 4294967296 < 4278190080
  · exact shift_flush p e v w h h1 h2 hn
  · exact (shift_keep p e v w h (by omega) (by omega) hn).mono fun r w' ⟨hr, h3, h4⟩ => ⟨hr, v, h3, h4⟩
end Go.Proofs.Ytopnnbhiehljlaa
