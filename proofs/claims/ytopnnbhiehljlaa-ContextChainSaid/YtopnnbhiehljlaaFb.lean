/- Layer 5 (freq): a new sign is added to a table. -/
import Derived.Test.YtopnnbhiehljlaaFa
import Derived.Test.YtopnnbhiehljlaaRef
import Derived.OrdersHeld
namespace Go.Proofs.Ytopnnbhiehljlaa
set_option linter.unusedVariables false
open Go.RowKit Go.My
attribute [local go_sem ↓] Go.wp_at_zero Go.wp_at_succ

theorem apart53 {w : World} {v1 v2 : Value} {n m : Nat} {xs ys : List Value} (h1 : w.ownsRow 0 5 1 v1 n xs) (h2 : w.ownsRow 0 3 1 v2 m ys) {k : Nat} (k1 : v1.ownBlock = some k) (k2 : v2.ownBlock = some k) : False := by
  obtain ⟨c1, e1⟩ := own_ty h1 k1
  obtain ⟨c2, e2⟩ := own_ty h2 k2
  exact ne_of_ty e1 e2 (by decide) rfl
theorem two_new (w : World) (o1 : Obj) (o2 : Obj) : ((w.alloc o1).alloc o2).heap[w.heap.size + 1]? = some o2 := by
  have h := heap_alloc_new (w.alloc o1) o2
  rw [show (w.alloc o1).heap.size = w.heap.size + 1 by simp] at h
  exact h

theorem tab_push {w w1 w2 : World} {p : Nat} {t : Fq.T} {v1 v2 : Value} {x : UInt8} {g1 g2 n cap1 cap2 : Nat} (h : TabAt w p t v1 v2) (hF1 : Fr (fun k => v1.ownBlock = some k) w w1)
    (hown1 : w1.ownsRow 0 5 1 (.slice (some ⟨g1, 0, none⟩) n cap1) n (bytesV t.s ++ [.int .u8 (x.toNat : Int)])) (hg1 : v1.ownBlock = some g1 ∨ w.heap.size ≤ g1) (hF2 : Fr (fun k => v2.ownBlock = some k) w1 w2)
    (hown2 : w2.ownsRow 0 3 1 (.slice (some ⟨g2, 0, none⟩) n cap2) n (intsV t.c ++ [.int .i64 0])) (hg2 : v2.ownBlock = some g2 ∨ w.heap.size ≤ g2) :
    TabAt ((w2.setCell ⟨p, 0, none⟩ (.slice (some ⟨g1, 0, none⟩) n cap1)).setCell ⟨p, 1, none⟩ (.slice (some ⟨g2, 0, none⟩) n cap2)) p ⟨t.s ++ [x], t.c ++ [0]⟩ (.slice (some ⟨g1, 0, none⟩) n cap1) (.slice (some ⟨g2, 0, none⟩) n cap2) ∧
      Step w ((w2.setCell ⟨p, 0, none⟩ (.slice (some ⟨g1, 0, none⟩) n cap1)).setCell ⟨p, 1, none⟩ (.slice (some ⟨g2, 0, none⟩) n cap2)) (tabFoot p v1 v2) (tabFoot p (.slice (some ⟨g1, 0, none⟩) n cap1) (.slice (some ⟨g2, 0, none⟩) n cap2)) := by
  have np1 : v1.ownBlock ≠ some p := fun he => by obtain ⟨cur, hc⟩ := own_ty h.s he; exact ne_of_ty hc h.blk (by decide) rfl
  have np2 : v2.ownBlock ≠ some p := fun he => by obtain ⟨cur, hc⟩ := own_ty h.c he; exact ne_of_ty hc h.blk (by decide) rfl
  have b1 := hF1.keep h.blk np1
  have b2 := hF2.keep b1 np2
  have hc1 : w1.ownsRow 0 3 1 v2 t.c.length (intsV t.c) := own_keep h.c hF1 (fun k hk hk2 => apart53 h.s h.c hk2 hk)
  have hs2 : w2.ownsRow 0 5 1 (.slice (some ⟨g1, 0, none⟩) n cap1) n (bytesV t.s ++ [.int .u8 (x.toNat : Int)]) := own_keep hown1 hF2 (fun k hk hk2 => apart53 hown1 hc1 hk hk2)
  have hfp : Fr (fun k => k = p) w2 ((w2.setCell ⟨p, 0, none⟩ (.slice (some ⟨g1, 0, none⟩) n cap1)).setCell ⟨p, 1, none⟩ (.slice (some ⟨g2, 0, none⟩) n cap2)) := ((Fr.refl (fun k => k = p) w2).setCell ⟨p, 0, none⟩ _ (.inl rfl)).setCell ⟨p, 1, none⟩ _ (.inl rfl)
  have hl1 : n = t.s.length + 1 := by have := hown1.1; simp [bytesV] at this; omega
  have hl2 : n = t.c.length + 1 := by have := hown2.1; simp [intsV] at this; omega
  refine ⟨⟨block_setCell (block_setCell b2 _) _, ?_, ?_⟩, ?_, ?_⟩
  · have := own_keep hs2 hfp (fun k hk hk2 => by obtain ⟨cur, hc⟩ := own_ty hs2 hk; subst hk2; exact ne_of_ty hc b2 (by decide) rfl)
    show World.ownsRow _ 0 5 1 _ (t.s ++ [x]).length _
    rw [List.length_append, List.length_cons, List.length_nil, ← hl1]
    simpa [bytesV] using this
  · have := own_keep hown2 hfp (fun k hk hk2 => by obtain ⟨cur, hc⟩ := own_ty hown2 hk; subst hk2; exact ne_of_ty hc b2 (by decide) rfl)
    show World.ownsRow _ 0 3 1 _ (t.c ++ [0]).length _
    rw [List.length_append, List.length_cons, List.length_nil, ← hl2]
    simpa [intsV] using this
  · refine ((hF1.mono (T := tabFoot p v1 v2) (fun k hk => .inl (.inr (.inl hk)))).trans hF2 (fun k hk => .inl (.inr (.inr hk)))).trans hfp (fun k hk => .inl (.inl hk))
  · rintro k (rfl | hk | hk)
    · exact .inl (.inl rfl)
    · simp [Value.ownBlock] at hk
      subst hk
      exact hg1.imp (fun h => .inr (.inl h)) id
    · simp [Value.ownBlock] at hk
      subst hk
      exact hg2.imp (fun h => .inr (.inr h)) id

theorem info3 : (Try.prog.info? 3).map (fun i => (i.zero, i.size, i.bytes)) = some (some (.int .i64 0), 1, 8) := by kernel_rfl
/-- Cells of a block that was laid. -/
theorem news_at {w : World} {b : Nat} {v : Value} {ty : TypeId} {fr : Nat × Nat} (h : w.heap[b]? = some (.cells #[v] ty fr)) : ∀ (j : Nat) (u : Value), ([v] : List Value)[j]? = some u → w.cell? ((⟨b, 0, none⟩ : Addr).add j) = some u := by
  intro j u hj
  rcases j with _ | j
  · simp at hj
    subst hj
    show w.cell? ⟨b, 0 + 0, none⟩ = _
    exact (cell_of h 0).trans rfl
  · simp at hj

set_option maxHeartbeats 16000000 in
set_option maxRecDepth 100000 in
theorem tab_add_new (p : Nat) (t : Fq.T) (v1 v2 : Value) (x : UInt8) (w : World) (h : TabAt w p t v1 v2) (hOk : t.Ok) (hx : ¬ t.s.idxOf x < t.s.length) :
    Calls Try.prog 32 #[.pointer (some ⟨p, 0, none⟩), .int .u8 (x.toNat : Int)] w fun r w' => r = .returned (.tuple #[]) ∧ ∃ v1' v2', TabAt w' p (t.add x) v1' v2' ∧ Step w w' (tabFoot p v1 v2) (tabFoot p v1' v2') := by
  have ha := tab_at p t v1 v2 x w h (by have := hOk.size; omega)
  rw [atV_out hx] at ha
  rw [Fq.T.add_new hx hOk.len]
  obtain ⟨i0, hi, hz0, hz1, hz2⟩ := info_parts info5
  obtain ⟨i3, ki, kz0, kz1, kz2⟩ := info_parts info3
  have hsz := hOk.size
  have hcl := hOk.len
  obtain ⟨a1, cp1, rfl, _⟩ := own_val h.s
  obtain ⟨a2, cp2, rfl, _⟩ := own_val h.c
  obtain ⟨L, hL⟩ : ∃ L, t.s.length = L := ⟨_, rfl⟩
  obtain ⟨B, hB⟩ : ∃ B, (x.toNat : Int) = B := ⟨_, rfl⟩
  rw [hB] at ha
  obtain ⟨c0, c1, f0, f1⟩ := h.cells
  have hos := h.s
  have hoc := h.c
  have hblk := h.blk
  rw [hcl, hL] at hoc c1
  rw [hL] at hos c0
  rw [hcl, hL] at hblk
  have hne1 : (Value.slice a1 L cp1).ownBlock ≠ some p := fun he => by obtain ⟨cur, hc⟩ := own_ty hos he; exact ne_of_ty hc hblk (by decide) rfl
  have hne2 : (Value.slice a2 L cp2).ownBlock ≠ some p := fun he => by obtain ⟨cur, hc⟩ := own_ty hoc he; exact ne_of_ty hc hblk (by decide) rfl
  have hpl : p < w.heap.size := lt_of_block hblk
  have hb1 : L + 1 ≤ maxLen := by unfold maxLen; omega
  have hb2 : (L + 1) * 1 ≤ 140737488355328 := by omega
  have hb3 : (L + 1) * 8 ≤ 140737488355328 := by omega
  have htab := h
  rw [hcl, hL] at htab
  have Htab := Lib.hid htab
  clear htab
  have Ha := Lib.hid ha
  have Hi := Lib.hid hi
  have Hz0 := Lib.hid hz0
  have Hz1 := Lib.hid hz1
  have Hz2 := Lib.hid hz2
  have Ki := Lib.hid ki
  have Kz0 := Lib.hid kz0
  have Kz1 := Lib.hid kz1
  have Kz2 := Lib.hid kz2
  have Hos := Lib.hid hos
  have Hoc := Lib.hid hoc
  have Hblk := Lib.hid hblk
  have Hne1 := Lib.hid hne1
  have Hne2 := Lib.hid hne2
  have HL := Lib.hid hL
  have HB := Lib.hid hB
  have Hcl := Lib.hid hcl
  have Hsz : Hid (L ≤ 256) := by show _ ≤ _; omega
  have Hb1 := Lib.hid hb1
  have Hb2 := Lib.hid hb2
  have Hb3 := Lib.hid hb3
  have hLi : (L : Int) ≤ 256 := by omega
  rw [hcl, hL, hB]
  clear h ha hi hz0 hz1 hz2 ki kz0 kz1 kz2 hos hoc hblk hne1 hne2 hL hB hcl hsz hb1 hb2 hb3 hOk hx
  go_enter Try.func32, Try.ntmps32
  go_upto_if 13 with (go_at_call 34; refine Ha.out.mono ?_; rintro r w1 ⟨rfl, rfl⟩)
  go_cut [4] (fun v4 wx => v4 = .int .i64 (L : Int) ∧ ∃ g1 cap1 g2 cap2, Hid (TabAt wx p ⟨t.s ++ [x], t.c ++ [0]⟩ (.slice (some ⟨g1, 0, none⟩) (L + 1) cap1) (.slice (some ⟨g2, 0, none⟩) (L + 1) cap2)) ∧ Hid (Step w wx (tabFoot p (.slice a1 L cp1) (.slice a2 L cp2)) (tabFoot p (.slice (some ⟨g1, 0, none⟩) (L + 1) cap1) (.slice (some ⟨g2, 0, none⟩) (L + 1) cap2))))
  case first =>
    go_upto_region 4 with fail
    go_region_law (first
      | ((refine step_append_my (o := ⟨some 27, _, _, _, _, _⟩) _ (by rfl) _ _ 39 (by rfl) 0 5 i0 (.int .u8 0) 1 1 Try.underlying39 Hi.out Hz0.out Hz1.out Hz2.out rfl (by decide) (.slice a1 L cp1) L (bytesV t.s) (by rfl) (own_keep (S := fun _ => False) Hos.out (((Fr.refl _ _).alloc (.cells #[.int .u8 B] 5)).drew) (fun _ _ h => h)) ⟨w.heap.size, 0, none⟩ 1 1 [.int .u8 B] (by rfl) (by rfl) (news_at (ty := 5) (fr := (0, 0)) (heap_alloc_new w _)) (by simp [Value.oneCell']) (by decide) Hb1.out Hb2.out (Nat.zero_le _) _ rfl ?_; intro g1 cap1 w1 hown1 hgrow hat hlt hsame; have hF1 : Fr (fun k => (Value.slice a1 L cp1).ownBlock = some k) w w1 := Fr.grown (Fr.mono (S := fun _ => False) (((Fr.refl _ _).alloc (.cells #[.int .u8 B] 5)).drew) (fun _ h => h.elim)) hgrow (fun k hk => .inl hk); have HF1 := Lib.hid hF1; rw [← HB.out] at hown1; have Hown1 := Lib.hid hown1; have hg1 : (Value.slice a1 L cp1).ownBlock = some g1 ∨ w.heap.size ≤ g1 := hat.imp id (fun h => (by rw [h]; simp <;> omega)); have Hg1 := Lib.hid hg1; have hpl1 : p < w1.heap.size := Nat.lt_of_lt_of_le hpl hF1.size; have d0 := hF1.cell_ c0 Hne1.out; have d1 := hF1.cell_ c1 Hne1.out; have Hoc1 : Hid (w1.ownsRow 0 3 1 (.slice a2 L cp2) L (intsV t.c)) := own_keep Hoc.out hF1 (fun k hk hk2 => apart53 Hos.out Hoc.out hk2 hk);  clear hown1 hgrow hat hlt hsame hF1 hg1))
      | ((refine step_append_my (o := ⟨some 27, _, _, _, _, _⟩) _ (by rfl) _ _ 39 (by rfl) 0 5 i0 (.int .u8 0) 1 1 Try.underlying39 Hi.out Hz0.out Hz1.out Hz2.out rfl (by decide) (.slice a1 L cp1) L (bytesV t.s) (by rfl) (own_keep (S := fun _ => False) Hos.out ((((Fr.refl _ _).alloc (.cells #[.int .u8 B] 5)).alloc (.cells #[.int .i64 0] 3)).drew) (fun _ _ h => h)) ⟨w.heap.size, 0, none⟩ 1 1 [.int .u8 B] (by rfl) (by rfl) (news_at (ty := 5) (fr := (0, 0)) (block_alloc (heap_alloc_new w _))) (by simp [Value.oneCell']) (by decide) Hb1.out Hb2.out (Nat.zero_le _) _ rfl ?_; intro g1 cap1 w1 hown1 hgrow hat hlt hsame; have hF1 : Fr (fun k => (Value.slice a1 L cp1).ownBlock = some k) w w1 := Fr.grown (Fr.mono (S := fun _ => False) ((((Fr.refl _ _).alloc (.cells #[.int .u8 B] 5)).alloc (.cells #[.int .i64 0] 3)).drew) (fun _ h => h.elim)) hgrow (fun k hk => .inl hk); have HF1 := Lib.hid hF1; rw [← HB.out] at hown1; have Hown1 := Lib.hid hown1; have hg1 : (Value.slice a1 L cp1).ownBlock = some g1 ∨ w.heap.size ≤ g1 := hat.imp id (fun h => (by rw [h]; simp <;> omega)); have Hg1 := Lib.hid hg1; have hpl1 : p < w1.heap.size := Nat.lt_of_lt_of_le hpl hF1.size; have d0 := hF1.cell_ c0 Hne1.out; have d1 := hF1.cell_ c1 Hne1.out; have Hoc1 : Hid (w1.ownsRow 0 3 1 (.slice a2 L cp2) L (intsV t.c)) := own_keep Hoc.out hF1 (fun k hk hk2 => apart53 Hos.out Hoc.out hk2 hk); have Hn2 : Hid (w1.heap[w.heap.size + 1]? = some (.cells #[.int .i64 0] 3 (0, 0))) := grown_keep hgrow (own_keep (S := fun _ => False) Hos.out ((((Fr.refl _ _).alloc (.cells #[.int .u8 B] 5)).alloc (.cells #[.int .i64 0] 3)).drew) (fun _ _ h => h)) (two_new w (.cells #[.int .u8 B] 5) (.cells #[.int .i64 0] 3)) (by decide); clear hown1 hgrow hat hlt hsame hF1 hg1))
      | ((refine step_append_my (o := ⟨some 27, _, _, _, _, _⟩) _ (by rfl) _ _ 39 (by rfl) 0 5 i0 (.int .u8 0) 1 1 Try.underlying39 Hi.out Hz0.out Hz1.out Hz2.out rfl (by decide) (.slice a1 L cp1) L (bytesV t.s) (by rfl) (own_keep (S := fun _ => False) Hos.out ((((Fr.refl _ _).alloc (.cells #[.int .i64 0] 3)).alloc (.cells #[.int .u8 B] 5)).drew) (fun _ _ h => h)) ⟨(w.heap.size + 1), 0, none⟩ 1 1 [.int .u8 B] (by rfl) (by rfl) (news_at (ty := 5) (fr := (0, 0)) (two_new w _ _)) (by simp [Value.oneCell']) (by decide) Hb1.out Hb2.out (Nat.zero_le _) _ rfl ?_; intro g1 cap1 w1 hown1 hgrow hat hlt hsame; have hF1 : Fr (fun k => (Value.slice a1 L cp1).ownBlock = some k) w w1 := Fr.grown (Fr.mono (S := fun _ => False) ((((Fr.refl _ _).alloc (.cells #[.int .i64 0] 3)).alloc (.cells #[.int .u8 B] 5)).drew) (fun _ h => h.elim)) hgrow (fun k hk => .inl hk); have HF1 := Lib.hid hF1; rw [← HB.out] at hown1; have Hown1 := Lib.hid hown1; have hg1 : (Value.slice a1 L cp1).ownBlock = some g1 ∨ w.heap.size ≤ g1 := hat.imp id (fun h => (by rw [h]; simp <;> omega)); have Hg1 := Lib.hid hg1; have hpl1 : p < w1.heap.size := Nat.lt_of_lt_of_le hpl hF1.size; have d0 := hF1.cell_ c0 Hne1.out; have d1 := hF1.cell_ c1 Hne1.out; have Hoc1 : Hid (w1.ownsRow 0 3 1 (.slice a2 L cp2) L (intsV t.c)) := own_keep Hoc.out hF1 (fun k hk hk2 => apart53 Hos.out Hoc.out hk2 hk); have Hn2 : Hid (w1.heap[w.heap.size]? = some (.cells #[.int .i64 0] 3 (0, 0))) := grown_keep hgrow (own_keep (S := fun _ => False) Hos.out ((((Fr.refl _ _).alloc (.cells #[.int .i64 0] 3)).alloc (.cells #[.int .u8 B] 5)).drew) (fun _ _ h => h)) (block_alloc (heap_alloc_new w _)) (by decide); clear hown1 hgrow hat hlt hsame hF1 hg1))
      | ((refine step_append_my (o := ⟨some 33, _, _, _, _, _⟩) _ (by rfl) _ _ 40 (by rfl) 0 3 i3 (.int .i64 0) 1 8 Try.underlying40 Ki.out Kz0.out Kz1.out Kz2.out rfl (by decide) (.slice a2 L cp2) L (intsV t.c) (by rfl) (own_keep (S := fun _ => False) Hoc1.out (Fr.refl _ w1) (fun _ _ h => h)) ⟨(w.heap.size + 1), 0, none⟩ 1 1 [.int .i64 0] (by rfl) (by rfl) (news_at (ty := 3) (fr := (0, 0)) (Hn2.out)) (by simp [Value.oneCell']) (by decide) Hb1.out Hb3.out (Nat.zero_le _) _ rfl ?_; intro g2 cap2 w2 hown2 hgrow hat hlt hsame; have hF2 : Fr (fun k => (Value.slice a2 L cp2).ownBlock = some k) w1 w2 := Fr.grown (Fr.mono (S := fun _ => False) (Fr.refl _ w1) (fun _ h => h.elim)) hgrow (fun k hk => .inl hk); have hg2 : (Value.slice a2 L cp2).ownBlock = some g2 ∨ w.heap.size ≤ g2 := hat.imp id (fun h => (by rw [h]; have := HF1.out.size; simp <;> omega)); have HP := Lib.hid (tab_push Htab.out HF1.out Hown1.out Hg1.out hF2 hown2 hg2); have e0 := hF2.cell_ d0 Hne2.out; have e1 := hF2.cell_ d1 Hne2.out; have k0 := hF2.frozen_ d0 (HF1.out.frozen_ c0 f0 Hne1.out) Hne2.out; have k1 := hF2.frozen_ d0 (HF1.out.frozen_ c0 f1 Hne1.out) Hne2.out; clear hown2 hgrow hat hlt hsame hF2 hg2))
      | ((refine step_append_my (o := ⟨some 33, _, _, _, _, _⟩) _ (by rfl) _ _ 40 (by rfl) 0 3 i3 (.int .i64 0) 1 8 Try.underlying40 Ki.out Kz0.out Kz1.out Kz2.out rfl (by decide) (.slice a2 L cp2) L (intsV t.c) (by rfl) (own_keep (S := fun _ => False) Hoc1.out (Fr.refl _ w1) (fun _ _ h => h)) ⟨w.heap.size, 0, none⟩ 1 1 [.int .i64 0] (by rfl) (by rfl) (news_at (ty := 3) (fr := (0, 0)) (Hn2.out)) (by simp [Value.oneCell']) (by decide) Hb1.out Hb3.out (Nat.zero_le _) _ rfl ?_; intro g2 cap2 w2 hown2 hgrow hat hlt hsame; have hF2 : Fr (fun k => (Value.slice a2 L cp2).ownBlock = some k) w1 w2 := Fr.grown (Fr.mono (S := fun _ => False) (Fr.refl _ w1) (fun _ h => h.elim)) hgrow (fun k hk => .inl hk); have hg2 : (Value.slice a2 L cp2).ownBlock = some g2 ∨ w.heap.size ≤ g2 := hat.imp id (fun h => (by rw [h]; have := HF1.out.size; simp <;> omega)); have HP := Lib.hid (tab_push Htab.out HF1.out Hown1.out Hg1.out hF2 hown2 hg2); have e0 := hF2.cell_ d0 Hne2.out; have e1 := hF2.cell_ d1 Hne2.out; have k0 := hF2.frozen_ d0 (HF1.out.frozen_ c0 f0 Hne1.out) Hne2.out; have k1 := hF2.frozen_ d0 (HF1.out.frozen_ c0 f1 Hne1.out) Hne2.out; clear hown2 hgrow hat hlt hsame hF2 hg2))
      | ((refine step_append_my (o := ⟨some 33, _, _, _, _, _⟩) _ (by rfl) _ _ 40 (by rfl) 0 3 i3 (.int .i64 0) 1 8 Try.underlying40 Ki.out Kz0.out Kz1.out Kz2.out rfl (by decide) (.slice a2 L cp2) L (intsV t.c) (by rfl) (own_keep (S := fun _ => False) Hoc1.out ((Fr.refl _ _).alloc (.cells #[.int .i64 0] 3)) (fun _ _ h => h)) ⟨w1.heap.size, 0, none⟩ 1 1 [.int .i64 0] (by rfl) (by rfl) (news_at (ty := 3) (fr := (0, 0)) (heap_alloc_new w1 _)) (by simp [Value.oneCell']) (by decide) Hb1.out Hb3.out (Nat.zero_le _) _ rfl ?_; intro g2 cap2 w2 hown2 hgrow hat hlt hsame; have hF2 : Fr (fun k => (Value.slice a2 L cp2).ownBlock = some k) w1 w2 := Fr.grown (Fr.mono (S := fun _ => False) ((Fr.refl _ _).alloc (.cells #[.int .i64 0] 3)) (fun _ h => h.elim)) hgrow (fun k hk => .inl hk); have hg2 : (Value.slice a2 L cp2).ownBlock = some g2 ∨ w.heap.size ≤ g2 := hat.imp id (fun h => (by rw [h]; have := HF1.out.size; simp <;> omega)); have HP := Lib.hid (tab_push Htab.out HF1.out Hown1.out Hg1.out hF2 hown2 hg2); have e0 := hF2.cell_ d0 Hne2.out; have e1 := hF2.cell_ d1 Hne2.out; have k0 := hF2.frozen_ d0 (HF1.out.frozen_ c0 f0 Hne1.out) Hne2.out; have k1 := hF2.frozen_ d0 (HF1.out.frozen_ c0 f1 Hne1.out) Hne2.out; clear hown2 hgrow hat hlt hsame hF2 hg2)))
    all_goals go_wp2
    all_goals go_meet
    all_goals exact ⟨rfl, g1, cap1, g2, cap2, HP.out.1, HP.out.2⟩
  case rest =>
    obtain ⟨rfl, g1, cap1, g2, cap2, HT, HS⟩ := hcut
    have hlen : (t.c ++ [0]).length = L + 1 := by rw [List.length_append, Hcl.out, HL.out]; rfl
    obtain ⟨d0, d1, e0, e1⟩ := HT.out.cells
    have hown := HT.out.c
    dsimp only at hown
    rw [hlen] at hown
    have hce : wc.cell? ⟨g2, L, none⟩ = some (.int .i64 0) := by
      rw [World.ownsRow.cellAt hown L (by omega), intsV_get (by omega)]
      have : (t.c ++ [0]).getD L 0 = 0 := by
        rw [List.getD_eq_getElem?_getD, List.getElem?_append_right (by rw [Hcl.out, HL.out]; exact Nat.le_refl _)]
        simp [Hcl.out, HL.out]
      rw [this]; rfl
    have hfz := World.ownsRow.frozenAt hown L
    obtain ⟨cur, hty⟩ := own_ty hown (g := g2) rfl
    have hpg : p ≠ g2 := ne_of_ty HT.out.blk hty (by decide)
    have hset := HT.out.setc (by dsimp only; exact hlen.symm) L 1
    dsimp only at hset
    have Hset := Lib.hid hset
    have HLs := HL
    clear c0 c1 f0 f1 hown hlen hty hset
    go_wp2
    refine bodyPost_ret (results_none rfl _ _ _) rfl ?_
    refine ⟨rfl, _, _, Hset.out.1, ⟨HS.out.fr.trans Hset.out.2 (fun k hk => HS.out.foot k hk), HS.out.foot⟩⟩
theorem tab_add (p : Nat) (t : Fq.T) (v1 v2 : Value) (x : UInt8) (w : World) (h : TabAt w p t v1 v2) (hOk : t.Ok) :
    Calls Try.prog 32 #[.pointer (some ⟨p, 0, none⟩), .int .u8 (x.toNat : Int)] w fun r w' => r = .returned (.tuple #[]) ∧ ∃ v1' v2', TabAt w' p (t.add x) v1' v2' ∧ Step w w' (tabFoot p v1 v2) (tabFoot p v1' v2') := by
  by_cases hx : t.s.idxOf x < t.s.length
  · exact (tab_add_in p t v1 v2 x w h hOk hx).mono fun r w' ⟨h1, h2, h3⟩ => ⟨h1, v1, v2, h2, ⟨h3, fun k hk => .inl hk⟩⟩
  · exact tab_add_new p t v1 v2 x w h hOk hx
theorem tab_add_nil (x : Nat) (w : World) : Calls Try.prog 32 #[.pointer none, .int .u8 (x : Int)] w fun r w' => r = .returned (.tuple #[]) ∧ w = w' := by
  go_enter Try.func32, Try.ntmps32
  go_wp2
  refine bodyPost_ret (results_none rfl _ _ _) rfl ?_
  exact ⟨rfl, rfl⟩
end Go.Proofs.Ytopnnbhiehljlaa
