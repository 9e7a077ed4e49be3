/- Walks of layer 2 (window): Copy. -/
import Derived.Test.YtfmoagdhajfngaaWin
import Derived.Test.YtfmoagdhajfngaaApp
import Derived.Deep.RegionLaw
import Derived.BigRegion
namespace Go.Proofs.Ytfmoagdhajfngaa
open Go.RowKit Go.My

/-- n bytes more, each from d back. -/
def cpy (d : Nat) : Nat → List UInt8 → List UInt8
  | 0, l => l
  | n + 1, l => cpy d n (l ++ [l.getD (l.length - d) 0])

set_option maxRecDepth 100000 in
theorem copy_nil (d n : Int) (w : World) : Calls Try.prog 17 #[.pointer none, .int .i64 d, .int .i64 n] w fun e w' => e = .returned (.bool false) ∧ Dr w w' := by
  go_enter Try.func17, Try.ntmps17
  go_wp2
  go_quiet (fail)
  go_wp2
  go_ret
  exact ⟨rfl, _, rfl⟩

set_option maxRecDepth 100000 in
theorem copy_false (p : Nat) (most d n : Int) (bs : List UInt8) (v : Value) (w : World) (h : WinAt w p most bs v) (hm : 0 ≤ most ∧ most ≤ 9223372036854775807) (hd : d < 1 ∨ (bs.length : Int) < d ∨ n < 0 ∨ most - bs.length < n) :
    Calls Try.prog 17 #[.pointer (some ⟨p, 0, none⟩), .int .i64 d, .int .i64 n] w fun e w' => e = .returned (.bool false) ∧ Dr w w' := by
  have c0 : w.cell? ⟨p, 0, none⟩ = some (.int .i64 most) := cell_of h.blk 0
  have c1 : w.cell? ⟨p, 1, none⟩ = some v := cell_of h.blk 1
  obtain ⟨a, cap, rfl⟩ := own_any h.own
  have hlen := h.len
  have hw : IntKind.i64.wrap (most - (bs.length : Int)) = most - bs.length := IntWalk.i64_in _ (by omega)
  clear h
  by_cases h1 : d < 1
  · have d1 : decide (d < 1) = true := by simpa using h1
    clear hd h1
    go_enter Try.func17, Try.ntmps17
    go_wp2
    go_quiet (fail)
    go_wp2
    go_ret
    exact ⟨rfl, _, rfl⟩
  · have d1 : decide (d < 1) = false := by simpa using h1
    by_cases h2 : (bs.length : Int) < d
    · have d2 : decide ((bs.length : Int) < d) = true := by simpa using h2
      clear hd h1 h2
      go_enter Try.func17, Try.ntmps17
      go_wp2
      go_quiet (fail)
      go_wp2
      go_ret
      exact ⟨rfl, _, rfl⟩
    · have d2 : decide ((bs.length : Int) < d) = false := by simpa using h2
      by_cases h3 : n < 0
      · have d3 : decide (n < 0) = true := by simpa using h3
        clear hd h1 h2 h3
        go_enter Try.func17, Try.ntmps17
        go_wp2
        go_quiet (fail)
        go_wp2
        go_ret
        exact ⟨rfl, _, rfl⟩
      · have d3 : decide (n < 0) = false := by simpa using h3
        have d4 : decide (most - (bs.length : Int) < n) = true := by simp; omega
        clear hd h1 h2 h3
        go_enter Try.func17, Try.ntmps17
        go_wp2
        go_quiet (fail)
        go_wp2
        go_ret
        exact ⟨rfl, _, rfl⟩

/-- Behind i bytes of n. -/
structure CopyInv (w : World) (p : Nat) (most : Int) (d n : Nat) (bs : List UInt8) (v : Value) (i : Nat) (b' : List UInt8) (v' : Value) (wr : World) : Prop where
  le : i ≤ n
  len : b'.length = bs.length + i
  more : cpy d (n - i) b' = cpy d n bs
  win : WinAt wr p most b' v'
  fr : Fr (winFoot p v) w wr
  foot : ∀ k, v'.ownBlock = some k → v.ownBlock = some k ∨ w.heap.size ≤ k

/-- A byte more, behind the row's append and the store of the slice. -/
theorem copy_step {w wr w1 : World} {p : Nat} {most : Int} {d n i g cap' : Nat} {bs b' : List UInt8} {v v' : Value} (h : CopyInv w p most d n bs v i b' v' wr) (hd : d ≤ bs.length) (h1 : 1 ≤ d) (hi : i < n) (hmost : (bs.length : Int) + n ≤ 1000000000)
    (q : Nat) (x : Value)
    (hown : w1.ownsRow 0 5 1 (.slice (some ⟨g, 0, none⟩) (b'.length + 1) cap') (b'.length + 1) (bytesV b' ++ [.int .u8 ((b'.getD (b'.length - d) 0).toNat : Int)]))
    (hgr : ((wr.drewN q).alloc (.cells #[x] 5)).grownBy w1 v'.ownBlock) (hat : v'.ownBlock = some g ∨ g = wr.heap.size + 1) :
    CopyInv w p most d n bs v (i + 1) (b' ++ [b'.getD (b'.length - d) 0]) (.slice (some ⟨g, 0, none⟩) (b'.length + 1) cap') (w1.setCell ⟨p, 1, none⟩ (.slice (some ⟨g, 0, none⟩) (b'.length + 1) cap')) ∧
      w1.cell? ⟨p, 1, none⟩ = some v' ∧ w1.frozen? ⟨p, 1, none⟩ = false := by
  have hblk := h.win.blk
  have hlt := lt_of_block hblk
  have hne : p ≠ g := by
    rintro rfl
    rcases hat with e | e
    · exact h.win.apart e
    · omega
  have hb1 : w1.heap[p]? = some (.cells #[.int .i64 most, v'] 67 (0, 0)) :=
    (hgr.block p (by simp; omega) (fun e => h.win.apart e.symm)).trans (block_alloc (w := wr.drewN q) hblk)
  have hfr : Fr (winFoot p v') wr w1 := (((Fr.refl _ _).drewN _).alloc _).grown hgr (fun k hk => .inl (.inr hk))
  have hfoot : ∀ k, winFoot p v' k → winFoot p v k ∨ w.heap.size ≤ k := fun k hk => by
    rcases hk with rfl | hk
    · exact .inl (.inl rfl)
    · exact (h.foot k hk).imp .inr id
  refine ⟨⟨by omega, by simp; have := h.len; omega, ?_, ⟨?_, ?_, ?_, ?_⟩, ?_, ?_⟩, cell_of hb1 1, free_of hb1 1⟩
  · rw [← h.more, show n - i = (n - (i + 1)) + 1 by omega]; rfl
  · exact block_setCell hb1 _
  · have := own_keep (S := fun k => k = p) hown ((Fr.refl _ _).setCell ⟨p, 1, none⟩ (.slice (some ⟨g, 0, none⟩) (b'.length + 1) cap') (.inl rfl)) (by simp [Value.ownBlock]; exact fun e => hne e.symm)
    rw [bytesV_append]
    simpa [bytesV] using this
  · simp [Value.ownBlock]; exact fun e => hne e.symm
  · have := h.len; simp; omega
  · exact (h.fr.trans hfr hfoot).setCell _ _ (.inl (.inl rfl))
  · intro k hk
    have hk' : k = g := by simpa [Value.ownBlock, eq_comm] using hk
    subst hk'
    rcases hat with e | e
    · exact h.foot _ e
    · right; have := h.fr.size; omega

set_option maxHeartbeats 6000000 in
set_option maxRecDepth 100000 in
theorem copy_true (p : Nat) (most : Int) (d n : Nat) (bs : List UInt8) (v : Value) (w : World) (h : WinAt w p most bs v) (hm : 0 ≤ most ∧ most ≤ 9223372036854775807) (h1 : 1 ≤ d) (h2 : d ≤ bs.length) (h3 : (n : Int) ≤ most - bs.length) (h4 : (bs.length : Int) + n ≤ 1000000000) :
    Calls Try.prog 17 #[.pointer (some ⟨p, 0, none⟩), .int .i64 (d : Int), .int .i64 (n : Int)] w fun e w' => e = .returned (.bool true) ∧ ∃ v', WinAt w' p most (cpy d n bs) v' ∧
      Fr (winFoot p v) w w' ∧ (∀ k, v'.ownBlock = some k → v.ownBlock = some k ∨ w.heap.size ≤ k) := by
  obtain ⟨i0, hi, hz0, hz1, hz2⟩ := info_parts info5
  have Hi := Lib.hid hi
  have Hz0 := Lib.hid hz0
  have Hz1 := Lib.hid hz1
  have Hz2 := Lib.hid hz2
  have c0 : w.cell? ⟨p, 0, none⟩ = some (.int .i64 most) := cell_of h.blk 0
  have c1 : w.cell? ⟨p, 1, none⟩ = some v := cell_of h.blk 1
  obtain ⟨a, cap, rfl⟩ := own_any h.own
  have d1 : decide ((d : Int) < 1) = false := by simp; omega
  have d2 : decide (bs.length < d) = false := by simp; omega
  have d3 : decide ((n : Int) < 0) = false := by simp
  have d4 : decide (most - (bs.length : Int) < (n : Int)) = false := by simp; omega
  have hw : IntKind.i64.wrap (most - (bs.length : Int)) = most - bs.length := IntWalk.i64_in _ (by have := h.len; omega)
  have H := Lib.hid h
  have H1 := Lib.hid h1
  have H2 := Lib.hid h2
  have H3 := Lib.hid h3
  have H4 := Lib.hid h4
  clear h4
  clear h hi hz0 hz1 hz2 h1 h2 h3
  go_enter Try.func17, Try.ntmps17
  go_wp2
  go_quiet (fail)
  go_wp2
  go_loopw [41] (fun v41 wr => ∃ (i : Nat) (b' : List UInt8) (v' : Value), v41 = .int .i64 (i : Int) ∧ CopyInv w p most d n bs (.slice a bs.length cap) i b' v' wr) (fun v41 _ => n - (intOf v41).toNat)
  case atStart => exact ⟨0, bs, .slice a bs.length cap, rfl, ⟨Nat.zero_le _, rfl, rfl, H.out.drewN _, (Fr.refl _ _).drewN _, fun k hk => .inl hk⟩⟩
  case round =>
    obtain ⟨i, b', v', rfl, hI⟩ := hrel
    by_cases hlt : i < n
    · have e1 : wr.cell? ⟨p, 1, none⟩ = some v' := cell_of hI.win.blk 1
      have hl0 : 0 < b'.length := by have := hI.len; have := H1.out; have := H2.out; omega
      obtain ⟨g0, cap0, rfl⟩ := own_slice hI.win.own hl0
      have hdl : d ≤ b'.length := by have := hI.len; have := H2.out; omega
      have hd1 := H1.out
      have hL : b'.length ≤ 1000000000 := by have := hI.win.len; omega
      have hL2 : b'.length + 1 ≤ 1000000000 := by have := hI.len; have := H4.out; omega
      have hc := own_byte hI.win.own (b'.length - d) (by omega)
      have hi : (b'.length : Int) - (d : Int) = ((b'.length - d : Nat) : Int) := by omega
      have hstep := fun (w1 : World) (g cap' q : Nat) (x : Value) => copy_step (w1 := w1) (g := g) (cap' := cap') hI H2.out H1.out hlt H4.out q x
      have hbl := lt_of_block hI.win.blk
      have hg0 : g0 < wr.heap.size := by
        rcases hI.win.own.2 with ⟨h, _⟩ | ⟨g, _, _, h, _, hh, _⟩
        · cases h
        · simp at h; obtain ⟨rfl, _⟩ := h; exact lt_of_block hh
      have Hown := Lib.hid hI.win.own
      have HI := Lib.hid hI
      have Hstep := Lib.hid hstep
      have Hdl := Lib.hid hdl
      have Hd1 := Lib.hid hd1
      have hpg : p ≠ g0 := fun e => hI.win.apart (by rw [e]; rfl)
      generalize hq : b'.length - d = q at *
      have hq0 : (0 : Int) ≤ (q : Int) := by omega
      have hq1 : (q : Int) < (b'.length : Int) := by omega
      have hw2 : IntKind.i64.wrap (q : Int) = (q : Int) := IntWalk.i64_in _ (by omega)
      have Hq := Lib.hid hq
      have Hpg := Lib.hid hpg
      have Hbl := Lib.hid hbl
      have Hg0 := Lib.hid hg0
      have hB : ∃ B : Int, ((b'.getD q 0).toNat : Int) = B := ⟨_, rfl⟩
      obtain ⟨B, hB⟩ := hB
      rw [hB] at hc
      have HB := Lib.hid hB
      clear hI hstep hdl hd1 hl0 hq hpg hbl hg0 hB
      have hb1 : b'.length + 1 ≤ maxLen := by unfold maxLen; omega
      have hb2 : (b'.length + 1) * 1 ≤ 140737488355328 := by omega
      have hn1 : n ≤ 1000000000 := by have := H4.out; omega
      have e1a : (wr.alloc (.cells #[.int .u8 B] 5)).cell? ⟨p, 1, none⟩ = some (.slice (some ⟨g0, 0, none⟩) b'.length cap0) := (block_alloc_cell _ Hbl.out).trans e1
      have hca : (wr.alloc (.cells #[.int .u8 B] 5)).cell? ⟨g0, q, none⟩ = some (.int .u8 B) := (block_alloc_cell _ Hg0.out).trans hc
      go_upto_region 5 with fail
      go_region_law ((refine step_append_my _ (by rfl) _ _ _ (by rfl) 0 5 i0 (.int .u8 0) 1 1 Try.underlying29 Hi.out Hz0.out Hz1.out Hz2.out rfl (by omega) (.slice (some ⟨g0, 0, none⟩) b'.length cap0) b'.length (bytesV b') (by rfl) ((Hown.out.alloc _).drew) ⟨wr.heap.size, 0, none⟩ 1 1 [.int .u8 B] (by rfl) (by rfl) (World.news_of_block (cs := #[.int .u8 B]) (t := 5) (fr := (0, 0)) (heap_alloc_new wr _)) (by simp [Value.oneCell']) (by omega) hb1 hb2 (by simp) (wr.heap.size + 1) (by simp) ?_; intro g cap w1 hown1 hgrow hat hlt hsame; obtain ⟨hI1, e2, f2⟩ := Hstep.out w1 g cap 1 (.int .u8 B) (by rw [HB.out]; exact hown1) hgrow hat; have HI1 := Lib.hid hI1; clear hI1 hown1 hgrow hat hlt hsame))
      all_goals go_wp2
      all_goals go_roundw
      all_goals first | (exact ⟨i + 1, _, _, by go_num, HI1.out⟩) | (simp [intOf]; omega)
    · obtain rfl : i = n := by have := hI.le; omega
      have hmore := hI.more
      rw [Nat.sub_self] at hmore
      have hfin : cpy d i bs = b' := hmore.symm
      have HI := Lib.hid hI
      have Hfin := Lib.hid hfin
      clear hI hmore hfin
      go_wp2
      go_ret
      refine ⟨rfl, v', ?_, HI.out.fr, HI.out.foot⟩
      rw [Hfin.out]
      exact HI.out.win
end Go.Proofs.Ytfmoagdhajfngaa
