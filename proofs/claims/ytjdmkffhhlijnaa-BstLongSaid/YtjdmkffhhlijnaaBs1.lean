/- Walks of layer 08 (bst): the finder, its making, its place; what is told of a place that is met. -/
import Derived.Test.YtjdmkffhhlijnaaBsR
import Derived.Test.YtjdmkffhhlijnaaCh6
import Derived.Laws.MakeOwn
namespace Go.Proofs.Ytjdmkffhhlijnaa
set_option linter.unusedVariables false
open Go.RowKit Go.My Go.Ch Go.Bs

/-- A row of places. -/
def rowV (L : Nat → Int) (n : Nat) : Array Value := ((List.range n).map fun j => Value.int .i64 (L j)).toArray
theorem rowV_get (L : Nat → Int) (n j : Nat) (h : j < n) : (rowV L n)[j]? = some (.int .i64 (L j)) := by simp [rowV, h]
theorem rowV_set (g x : Nat) (v : Int) (L : Nat → Int) (n : Nat) : (rowV L n).setIfInBounds x (.int .i64 v) = rowV (setR g g x v L) n := by
  apply Array.ext
  · simp [rowV]
  · intro i h1 h2
    simp only [rowV, setR, true_and]
    by_cases e : x = i
    · subst e; simp
    · have e' : ¬ i = x := fun h => e h.symm
      simp [e, e']
theorem setR_off {g H x : Nat} (h : H ≠ g) (v : Int) (L : Nat → Int) : setR g H x v L = L := by
  funext j
  exact setR_ne (fun e => h e.1)
/-- A finder: its text, its window, its place, its top and its two rows. -/
structure FinT (w : World) (B p gl gm : Nat) (s : ByteArray) (win : Int) (pl : Nat) (top : Int) (L M : Nat → Int) : Prop where
  blk : w.heap[p]? = some (.cells #[.string s, .int .i64 win, .int .i64 (pl : Int), .int .i64 top, .slice (some ⟨gl, 0, none⟩) s.size s.size, .slice (some ⟨gm, 0, none⟩) s.size s.size] 49 (0, 0))
  bl : w.heap[gl]? = some (.cells (rowV L s.size) 3 (0, 0))
  bm : w.heap[gm]? = some (.cells (rowV M s.size) 3 (0, 0))
  ne : gl ≠ gm
  hp : B ≤ p
  hl : B ≤ gl
  hm : B ≤ gm
section
variable {w w' : World} {B p gl gm : Nat} {s : ByteArray} {win : Int} {pl : Nat} {top : Int} {L M : Nat → Int}
theorem FinT.npl (h : FinT w B p gl gm s win pl top L M) : p ≠ gl := ne_of_ty h.blk h.bl (by decide)
theorem FinT.npm (h : FinT w B p gl gm s win pl top L M) : p ≠ gm := ne_of_ty h.blk h.bm (by decide)
theorem FinT.lt (h : FinT w B p gl gm s win pl top L M) : p < w.heap.size ∧ gl < w.heap.size ∧ gm < w.heap.size := ⟨lt_of_block h.blk, lt_of_block h.bl, lt_of_block h.bm⟩
theorem FinT.keep {S : Nat → Prop} (h : FinT w B p gl gm s win pl top L M) (hf : Fr S w w') (h1 : ¬ S p) (h2 : ¬ S gl) (h3 : ¬ S gm) : FinT w' B p gl gm s win pl top L M :=
  ⟨hf.keep h.blk h1, hf.keep h.bl h2, hf.keep h.bm h3, h.ne, h.hp, h.hl, h.hm⟩
theorem FinT.fresh (h : FinT w B p gl gm s win pl top L M) (hf : Fr (fun _ => False) w w') : FinT w' B p gl gm s win pl top L M := h.keep hf (fun x => x) (fun x => x) (fun x => x)
theorem FinT.move (h : FinT w B p gl gm s win pl top L M) (q : Nat) : FinT (w.setCell ⟨p, 2, none⟩ (.int .i64 (q : Int))) B p gl gm s win q top L M :=
  ⟨block_setCell h.blk (.int .i64 (q : Int)) (off := 2), block_setCell_other h.bl (fun e => h.npl e.symm) _, block_setCell_other h.bm (fun e => h.npm e.symm) _, h.ne, h.hp, h.hl, h.hm⟩
theorem FinT.top_ (h : FinT w B p gl gm s win pl top L M) (q : Nat) : FinT (w.setCell ⟨p, 3, none⟩ (.int .i64 (q : Int))) B p gl gm s win pl q L M :=
  ⟨block_setCell h.blk (.int .i64 (q : Int)) (off := 3), block_setCell_other h.bl (fun e => h.npl e.symm) _, block_setCell_other h.bm (fun e => h.npm e.symm) _, h.ne, h.hp, h.hl, h.hm⟩
theorem FinT.cl (h : FinT w B p gl gm s win pl top L M) (j : Nat) (hj : j < s.size) : w.cell? ⟨gl, j, none⟩ = some (.int .i64 (L j)) := (cell_of h.bl j).trans (rowV_get L _ j hj)
theorem FinT.cm (h : FinT w B p gl gm s win pl top L M) (j : Nat) (hj : j < s.size) : w.cell? ⟨gm, j, none⟩ = some (.int .i64 (M j)) := (cell_of h.bm j).trans (rowV_get M _ j hj)
theorem FinT.hole (h : FinT w B p gl gm s win pl top L M) {H : Nat} (hb : H = gl ∨ H = gm) (x : Nat) (hx : x < s.size) : w.cell? ⟨H, x, none⟩ = some (.int .i64 (val gl H L M x)) ∧ w.frozen? ⟨H, x, none⟩ = false := by
  rcases hb with rfl | rfl
  · exact ⟨by rw [h.cl x hx]; simp [val], free_of h.bl x⟩
  · exact ⟨by rw [h.cm x hx]; simp [val, h.ne.symm], free_of h.bm x⟩
theorem FinT.put (h : FinT w B p gl gm s win pl top L M) {H : Nat} (hb : H = gl ∨ H = gm) (x : Nat) (v : Int) : FinT (w.setCell ⟨H, x, none⟩ (.int .i64 v)) B p gl gm s win pl top (setR gl H x v L) (setR gm H x v M) := by
  rcases hb with rfl | rfl
  · refine ⟨block_setCell_other h.blk h.npl _, ?_, ?_, h.ne, h.hp, h.hl, h.hm⟩
    · rw [← rowV_set]; exact block_setCell h.bl _
    · rw [setR_off h.ne]; exact block_setCell_other h.bm h.ne.symm _
  · refine ⟨block_setCell_other h.blk h.npm _, ?_, ?_, h.ne, h.hp, h.hl, h.hm⟩
    · rw [setR_off h.ne.symm]; exact block_setCell_other h.bl h.ne _
    · rw [← rowV_set]; exact block_setCell h.bm _
end
theorem made_row (n : Nat) : madeCells (Value.int .i64 0).cells (n * 1) = rowV (fun _ => 0) n := by
  rw [Nat.mul_one]
  apply Array.ext
  · simp [madeCells, rowV]
  · intro i h1 h2
    simp [madeCells, rowV, Value.cells, Nat.mod_one]
theorem make_row (n : Nat) (hn : n ≤ 65536) (w : World) : (Instr.makeSlice 43 (.int .i64 (n : Int)) (.int .i64 (n : Int))).run Try.prog w = .ok (.slice (some ⟨w.heap.size, 0, none⟩) n n) (w.alloc (.cells (rowV (fun _ => 0) n) 3)) := by
  obtain ⟨i0, hi, hz0, hz1, hz2⟩ := info_parts infoI
  have h := run_make (P := Try.prog) w 43 3 i0 (.int .i64 0) Try.underlying43 hi hz0 .i64 .i64 n n (by omega) (by omega) (by rw [hz2]; omega) (by omega)
  rw [h, hz1]
  simp only [Int.toNat_natCast]
  rw [made_row]
set_option maxHeartbeats 2000000 in
set_option maxRecDepth 100000 in
theorem bsnew_is (s : ByteArray) (hs : s.size ≤ 1000) (win : Int) (w : World) :
    Calls Try.prog 14 #[.string s, .int .i64 win] w fun e w' => ∃ p gl gm, e = .returned (.pointer (some ⟨p, 0, none⟩)) ∧ FinT w' w.heap.size p gl gm s win 0 (-1) (fun _ => 0) (fun _ => 0) ∧ Fr (fun _ => False) w w' := by
  have hmk := fun W => make_row s.size (by omega) W
  obtain ⟨R, hR⟩ : ∃ R, rowV (fun _ => 0) s.size = R := ⟨_, rfl⟩
  rw [hR] at hmk
  have HR := Lib.hid hR
  clear hR
  go_enter Try.func14, Try.ntmps14
  go_upto_region 1 with fail
  go_region
  all_goals go_wp2
  all_goals go_ret
  all_goals
    have b1 := heap_alloc_new w (.cells R 3)
    have b2 := heap_alloc_new (w.alloc (.cells R 3)) (.cells R 3)
    have e2 : (w.alloc (.cells R 3)).heap.size = w.heap.size + 1 := by simp
    rw [e2] at b2
    have b1' := block_alloc (x := .cells R 3) b1
    have e3 : ((w.alloc (.cells R 3)).alloc (.cells R 3)).heap.size = w.heap.size + 2 := by simp
  · have b3 := heap_alloc_new ((w.alloc (.cells R 3)).alloc (.cells R 3)) (.cells #[.string s, .int .i64 win, .int .i64 ((0 : Nat) : Int), .int .i64 (-1), .slice (some ⟨w.heap.size, 0, none⟩) s.size s.size, .slice (some ⟨w.heap.size + 1, 0, none⟩) s.size s.size] 49)
    rw [e3] at b3
    exact ⟨w.heap.size + 2, w.heap.size, w.heap.size + 1, by simp, ⟨b3, by rw [HR.out]; exact block_alloc b1', by rw [HR.out]; exact block_alloc b2, by omega, by omega, by omega, by omega⟩, ((((Fr.refl _ w).alloc _).alloc _).alloc _).drew⟩
  · have b3 := heap_alloc_new ((w.alloc (.cells R 3)).alloc (.cells R 3)) (.cells #[.string s, .int .i64 win, .int .i64 ((0 : Nat) : Int), .int .i64 (-1), .slice (some ⟨w.heap.size + 1, 0, none⟩) s.size s.size, .slice (some ⟨w.heap.size, 0, none⟩) s.size s.size] 49)
    rw [e3] at b3
    exact ⟨w.heap.size + 2, w.heap.size + 1, w.heap.size, by simp, ⟨b3, by rw [HR.out]; exact block_alloc b2, by rw [HR.out]; exact block_alloc b1', by omega, by omega, by omega, by omega⟩, ((((Fr.refl _ w).alloc _).alloc _).alloc _).drew⟩
theorem bsplace_is {w : World} {B p gl gm : Nat} {s : ByteArray} {win : Int} {pl : Nat} {top : Int} {L M : Nat → Int} (h : FinT w B p gl gm s win pl top L M) :
    Calls Try.prog 17 #[.pointer (some ⟨p, 0, none⟩)] w fun e w' => e = .returned (.int .i64 (pl : Int)) ∧ w' = w := by
  have c2 : w.cell? ⟨p, 2, none⟩ = some (.int .i64 (pl : Int)) := cell_of h.blk 2
  clear h
  go_enter Try.func17, Try.ntmps17
  go_wp2
  go_ret
  exact ⟨rfl, rfl⟩
theorem bsplace_nil (w : World) : Calls Try.prog 17 #[.pointer none] w fun e w' => e = .returned (.int .i64 0) ∧ w' = w := by
  go_enter Try.func17, Try.ntmps17
  go_wp2
  go_ret
  exact ⟨rfl, rfl⟩
/-- What was told so far: the best length, the matches, the place that asks. -/
structure Met (w : World) (B gb go gi i : Nat) (h : Nat × List (Nat × Nat)) (v : Value) : Prop where
  cb : w.heap[gb]? = some (.cells #[.int .i64 (h.1 : Int)] 3 (0, 0))
  co : w.heap[go]? = some (.cells #[v] 25 (0, 0))
  ci : w.heap[gi]? = some (.cells #[.int .i64 (i : Int)] 3 (0, 0))
  row : w.ownsRow B 32 2 v h.2.length (foundV h.2)
  ne : gb ≠ gi
  hb : B ≤ gb
  ho : B ≤ go
  hi : B ≤ gi
theorem Met.keep {w w' : World} {B gb go gi i : Nat} {h : Nat × List (Nat × Nat)} {v : Value} {S : Nat → Prop} (H : Met w B gb go gi i h v) (hf : Fr S w w') (hS : ∀ k, S k → k < B) : Met w' B gb go gi i h v :=
  ⟨hf.keep H.cb (fun x => by have := hS _ x; have := H.hb; omega), hf.keep H.co (fun x => by have := hS _ x; have := H.ho; omega), hf.keep H.ci (fun x => by have := hS _ x; have := H.hi; omega),
    own_keep H.row hf (fun k hk x => by have := hS _ x; have := own_base H.row hk; omega), H.ne, H.hb, H.ho, H.hi⟩
set_option maxHeartbeats 4000000 in
set_option maxRecDepth 100000 in
theorem met_is {w : World} {B gb go gi i : Nat} {h : Nat × List (Nat × Nat)} {v : Value} (H : Met w B gb go gi i h v) (l : List UInt8) (c n : Nat) (hc : c < i) (hi : i ≤ 1000) (hn : alike l c i = n) (hln : h.2.length ≤ 1000) (hn273 : n ≤ 273) (hh : h.1 ≤ 273) :
    Calls Try.prog 22 #[.int .i64 (c : Int), .int .i64 (n : Int), .pointer (some ⟨gb, 0, none⟩), .pointer (some ⟨go, 0, none⟩), .pointer (some ⟨gi, 0, none⟩)] w fun e w' =>
      e = .returned (.tuple #[]) ∧ (∃ v', Met w' B gb go gi i (stepA l i (i - c) h) v') ∧ Fr (fun k => B ≤ k) w w' := by
  obtain ⟨i0, hi0', hz0, hz1, hz2⟩ := info_parts infoF
  have Hi := Lib.hid hi0'
  have Hz0 := Lib.hid hz0
  have Hz1 := Lib.hid hz1
  have Hz2 := Lib.hid hz2
  clear hi0' hz0 hz1 hz2
  obtain ⟨bt, ot⟩ := h
  dsimp only at hln hh
  have cb : w.cell? ⟨gb, 0, none⟩ = some (.int .i64 (bt : Int)) := cell_of H.cb 0
  have fb := free_of H.cb 0
  obtain ⟨d, hd⟩ : ∃ d, i - c = d := ⟨_, rfl⟩
  have hst : stepA l i d (bt, ot) = if bt < n then (n, ot ++ [(n, d)]) else (bt, ot) := by
    unfold stepA
    rw [← hd, show i - (i - c) = c by omega, hn]
  rw [hd]
  by_cases hlt : bt < n
  · have hlI : (bt : Int) < (n : Int) := by omega
    rw [if_pos hlt] at hst
    rw [hst]
    obtain ⟨N, hN⟩ : ∃ N, ot.length = N := ⟨_, rfl⟩
    rw [hN] at hln
    have hrow := H.row
    dsimp only at hrow
    rw [hN] at hrow
    obtain ⟨ad, cap, hv⟩ := own_any hrow
    subst hv
    have hf1 := (Fr.refl (fun k => k = gb) w).setCell ⟨gb, 0, none⟩ (.int .i64 (n : Int)) (.inl rfl)
    obtain ⟨W1, hW1⟩ : ∃ W, w.setCell ⟨gb, 0, none⟩ (.int .i64 (n : Int)) = W := ⟨_, rfl⟩
    have hob : go ≠ gb := ne_of_ty H.co H.cb (by decide)
    have hb1 : W1.heap[gb]? = some (.cells #[.int .i64 (n : Int)] 3 (0, 0)) := by rw [← hW1]; exact block_setCell H.cb _ (off := 0)
    rw [hW1] at hf1
    have ho1 := hf1.keep H.co hob
    have hi1 := hf1.keep H.ci (fun e => H.ne e.symm)
    have hr1 := own_keep hrow hf1 (fun k hk e => by obtain ⟨cur, hcur⟩ := own_ty hrow hk; exact ne_of_ty hcur H.cb (by decide) e)
    have co1 : W1.cell? ⟨go, 0, none⟩ = some (.slice ad N cap) := cell_of ho1 0
    have fo1 := free_of ho1 0
    have ci1 : W1.cell? ⟨gi, 0, none⟩ = some (.int .i64 (i : Int)) := cell_of hi1 0
    have hF1 : Fr (fun k => B ≤ k) w W1 := hf1.mono (fun k hk => .inl (by have := H.hb; omega))
    have hBW : B ≤ W1.heap.size := by have := lt_of_block hb1; have := H.hb; omega
    have hgo1 := lt_of_block ho1
    have e1 : IntKind.i64.wrap ((i : Int) - (c : Int)) = (d : Int) := by rw [IntWalk.i64_in _ (by omega)]; omega
    have HW1 := Lib.hid hW1
    have HB1 := Lib.hid hb1
    have HO1 := Lib.hid ho1
    have HI1 := Lib.hid hi1
    have HR1 := Lib.hid hr1
    have HF := Lib.hid hF1
    have HH := Lib.hid H
    have HN := Lib.hid hN
    have HBW := Lib.hid hBW
    clear hf1 hb1 ho1 hi1 hr1 hF1 H hN hst hrow hd hW1 hBW
    go_enter Try.func22, Try.ntmps22
    go_upto_region 2 with fail
    rw [HW1.out]
    clear cb fb
    go_wp2_with (at_builtin; refine wpList_append_my _ rfl _ _ 25 rfl B 32 i0 (.agg #[.int .i64 0, .int .i64 0]) 2 16 Try.underlying25 Hi.out Hz0.out Hz1.out Hz2.out rfl (by decide) (.slice ad N cap) N _ (by rfl) (HR1.out.alloc _) ⟨_, 0, none⟩ 1 1 [.int .i64 (n : Int), .int .i64 (d : Int)] (by rfl) (by rfl) (World.news_of_block (cs := #[.int .i64 (n : Int), .int .i64 (d : Int)]) (t := 32) (fr := (0, 0)) (heap_alloc_new _ _)) (by simp [Value.oneCell']) (by omega) (by unfold maxLen; omega) (by omega) (by have := HBW.out; simp; omega) _ rfl ?_; intro g cap2 w2 hown hgrow hat hlt2 hsame; have IB := Lib.hid hown; have hnr : ∀ k, (Value.slice ad N cap).ownBlock = some k → k ≠ gb ∧ k ≠ go ∧ k ≠ gi := (fun k hk => by { obtain ⟨cur, hcur⟩ := own_ty HR1.out hk; exact ⟨ne_of_ty hcur HB1.out (by decide), ne_of_ty hcur HO1.out (by decide), ne_of_ty hcur HI1.out (by decide)⟩ }); have GB := Lib.hid ((hgrow.block gb (by have := lt_of_block HB1.out; simp; omega) (fun e => (hnr gb e.symm).1 rfl)).trans (block_alloc HB1.out)); have GO := Lib.hid ((hgrow.block go (by have := lt_of_block HO1.out; simp; omega) (fun e => (hnr go e.symm).2.1 rfl)).trans (block_alloc HO1.out)); have GI := Lib.hid ((hgrow.block gi (by have := lt_of_block HI1.out; simp; omega) (fun e => (hnr gi e.symm).2.2 rfl)).trans (block_alloc HI1.out)); have c5n : w2.cell? ⟨go, 0, none⟩ = some (.slice ad N cap) := cell_of GO.out 0; have f5n := free_of GO.out 0; have IF : Hid (Fr (fun k => B ≤ k) w w2) := Lib.hid ((HF.out.alloc _).grown hgrow (fun k hk => .inl (own_base HR1.out hk))); clear hown hgrow hat hlt2 hsame hnr)
    go_end0
    have hfr := (Fr.refl (fun k => k = go) w2).setCell ⟨go, 0, none⟩ (.slice (some ⟨g, 0, none⟩) (N + 1) cap2) (.inl rfl)
    refine ⟨rfl, ⟨_, ⟨hfr.keep GB.out (fun e => ne_of_ty GB.out GO.out (by decide) e), block_setCell GO.out _ (off := 0), hfr.keep GI.out (fun e => ne_of_ty GI.out GO.out (by decide) e), ?_, HH.out.ne, HH.out.hb, HH.out.ho, HH.out.hi⟩⟩, IF.out.setCell _ _ (.inl HH.out.ho)⟩
    have hr := own_keep IB.out hfr (fun k hk e => by obtain ⟨cur, hcur⟩ := own_ty IB.out hk; exact ne_of_ty hcur GO.out (by decide) e)
    rw [← HN.out] at hr ⊢
    rw [foundV_snoc]
    simp only [List.length_append, List.length_cons, List.length_nil]
    exact hr
  · have hlI : ¬ ((bt : Int) < (n : Int)) := by omega
    rw [if_neg hlt] at hst
    rw [hst]
    have HH := Lib.hid H
    clear H hst hd
    go_enter Try.func22, Try.ntmps22
    go_wp2
    go_end0
    exact ⟨rfl, ⟨_, HH.out⟩, Fr.refl _ _⟩
end Go.Proofs.Ytjdmkffhhlijnaa
