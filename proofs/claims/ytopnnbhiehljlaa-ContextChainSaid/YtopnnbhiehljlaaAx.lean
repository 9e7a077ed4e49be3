/- Layer 17 (arena) for nodes of contexts: what it holds, and its functions. -/
import Derived.Test.YtopnnbhiehljlaaTh
import Derived.Test.YtopnnbhiehljlaaMz
import Derived.BigRegion
namespace Go.Proofs.Ytopnnbhiehljlaa
set_option linter.unusedVariables false
open Go.RowKit Go.My

/-- A node as it lies in its cell. -/
structure Nv where
  sg : UInt8
  ch : Nat
  nx : Nat
  tp : Nat
def Nv.arr (v : Nv) : Array Value := #[.int .u8 (v.sg.toNat : Int), .int .i64 (v.ch : Int), .int .i64 (v.nx : Int), .pointer (some ⟨v.tp, 0, none⟩)]
def Nv.cel (v : Nv) : Array Value := #[.int .u8 (v.sg.toNat : Int), .int .i64 (v.ch : Int), .int .i64 (v.nx : Int), .pointer (some ⟨v.tp, 0, none⟩), .bool true]
def ptrsV (bs : List Nat) : List Value := bs.map fun b => .pointer (some ⟨b, 0, none⟩)
theorem ptrsV_length (bs : List Nat) : (ptrsV bs).length = bs.length := by simp [ptrsV]
theorem ptrsV_get {bs : List Nat} {i : Nat} (h : i < bs.length) : (ptrsV bs)[i]? = some (.pointer (some ⟨bs.getD i 0, 0, none⟩)) := by
  simp [ptrsV, List.getD, List.getElem?_eq_getElem h]

structure ArN (w : World) (q room : Nat) (u : Value) (bs : List Nat) (vs : List Nv) : Prop where
  blk : w.heap[q]? = some (.cells #[.int .i64 (room : Int), u, .slice none 0 0] 94 (0, 0))
  own : w.ownsRow 0 102 1 u bs.length (ptrsV bs)
  len : vs.length = bs.length
  cell : ∀ i, i < bs.length → w.heap[bs.getD i 0]? = some (.cells (vs.getD i ⟨0, 0, 0, 0⟩).cel 101 (0, 0))
  nodup : bs.Nodup
  le : bs.length ≤ room
  big : room ≤ 1048576
def arFoot (q : Nat) (u : Value) (bs : List Nat) : Nat → Prop := fun k => k = q ∨ u.ownBlock = some k ∨ k ∈ bs
theorem ArN.in_ {w : World} {q room : Nat} {u : Value} {bs : List Nat} {vs : List Nv} (h : ArN w q room u bs vs) {k : Nat} (hk : k ∈ bs) : ∃ i, i < bs.length ∧ bs.getD i 0 = k := by
  obtain ⟨i, hi, rfl⟩ := List.mem_iff_getElem.1 hk
  exact ⟨i, hi, by simp [List.getD, List.getElem?_eq_getElem hi]⟩
theorem ArN.keep {w w' : World} {q room : Nat} {u : Value} {bs : List Nat} {vs : List Nv} {S : Nat → Prop} (h : ArN w q room u bs vs) (hf : Fr S w w') (hs : ∀ k, arFoot q u bs k → ¬ S k) : ArN w' q room u bs vs :=
  ⟨hf.keep h.blk (hs q (.inl rfl)), own_keep h.own hf (fun k hk => hs k (.inr (.inl hk))), h.len, fun i hi => hf.keep (h.cell i hi) (hs _ (.inr (.inr (by simp [List.getD, List.getElem?_eq_getElem hi])))), h.nodup, h.le, h.big⟩
theorem ArN.lt {w : World} {q room : Nat} {u : Value} {bs : List Nat} {vs : List Nv} (h : ArN w q room u bs vs) {k : Nat} (hk : arFoot q u bs k) : k < w.heap.size := by
  rcases hk with rfl | hk | hk
  · exact lt_of_block h.blk
  · obtain ⟨cur, hc⟩ := own_ty h.own hk
    exact lt_of_block hc
  · obtain ⟨i, hi, rfl⟩ := h.in_ hk
    exact lt_of_block (h.cell i hi)
theorem ArN.cells {w : World} {q room : Nat} {u : Value} {bs : List Nat} {vs : List Nv} (h : ArN w q room u bs vs) : w.cell? ⟨q, 0, none⟩ = some (.int .i64 (room : Int)) ∧ w.cell? ⟨q, 1, none⟩ = some u ∧ w.cell? ⟨q, 2, none⟩ = some (.slice none 0 0) :=
  ⟨(cell_of h.blk 0).trans rfl, (cell_of h.blk 1).trans rfl, (cell_of h.blk 2).trans rfl⟩
theorem add_plain0 (b j : Nat) : (⟨b, 0, none⟩ : Addr).add j = ⟨b, j, none⟩ := by unfold Addr.add; split <;> simp_all
theorem ArN.ptr {w : World} {q room g cap n : Nat} {bs : List Nat} {vs : List Nv} (h : ArN w q room (.slice (some ⟨g, 0, none⟩) n cap) bs vs) {i : Nat} (hi : i < bs.length) : w.cell? ⟨g, i, none⟩ = some (.pointer (some ⟨bs.getD i 0, 0, none⟩)) := by
  have := World.ownsRow.cells h.own (g := g) rfl i _ (ptrsV_get hi)
  rwa [add_plain0] at this

set_option maxHeartbeats 2000000 in
set_option maxRecDepth 100000 in
theorem ar_at {w : World} {q room : Nat} {u : Value} {bs : List Nat} {vs : List Nv} (h : ArN w q room u bs vs) (i : Nat) (hi : i < bs.length) :
    Calls Try.prog 31 #[.pointer (some ⟨q, 0, none⟩), .int .i64 ((i : Int) + 1)] w fun e w' => e = .returned (.pointer (some ⟨bs.getD i 0, 0, none⟩)) ∧ w = w' := by
  obtain ⟨c0, c1, c2⟩ := h.cells
  obtain ⟨g, cap, hu⟩ := own_slice h.own (by omega)
  subst hu
  have hp := h.ptr hi
  have hb := (cell_of (h.cell i hi) 4).trans rfl
  have hlen : (bs.length : Int) ≤ 1048576 := by have := h.le; have := h.big; omega
  generalize bs.getD i 0 = b at *
  obtain ⟨n, hn⟩ : ∃ n, bs.length = n := ⟨_, rfl⟩
  rw [hn] at c1 hi hlen
  have hI : (i : Int) < (n : Int) := by omega
  have hI0 : (0 : Int) ≤ (i : Int) := by omega
  have hb4 : w.cell? ⟨b, 4, none⟩ = some (.bool true) := hb
  clear h hn hb
  go_enter Try.func31, Try.ntmps31
  go_wp2
  go_ret
  exact ⟨rfl, rfl⟩

set_option maxHeartbeats 2000000 in
set_option maxRecDepth 100000 in
theorem ar_left {w : World} {q room : Nat} {u : Value} {bs : List Nat} {vs : List Nv} (h : ArN w q room u bs vs) :
    Calls Try.prog 33 #[.pointer (some ⟨q, 0, none⟩)] w fun e w' => e = .returned (.int .i64 ((room : Int) - (bs.length : Int))) ∧ ∃ k, w' = w.drewN k := by
  obtain ⟨c0, c1, c2⟩ := h.cells
  obtain ⟨a, cap, hu⟩ := own_any h.own
  subst hu
  have h1 := h.le
  have h2 := h.big
  obtain ⟨n, hn⟩ : ∃ n, bs.length = n := ⟨_, rfl⟩
  rw [hn] at c1 h1 ⊢
  have hI : (n : Int) ≤ (room : Int) := by omega
  have hI2 : (room : Int) ≤ 1048576 := by omega
  have e1 : IntKind.i64.wrap ((room : Int) - (n : Int)) = (room : Int) - (n : Int) := IntWalk.i64_in _ (by omega)
  have e2 : IntKind.i64.wrap ((room : Int) - (n : Int) + 0) = (room : Int) - (n : Int) := by rw [Int.add_zero]; exact e1
  have hd0 : (0 : Int) ≤ (room : Int) - (n : Int) := by omega
  clear h hn h1 h2
  go_enter Try.func33, Try.ntmps33
  go_wp2
  go_quiet (fail)
  go_wp2
  go_ret
  exact ⟨rfl, _, rfl⟩

set_option maxHeartbeats 2000000 in
set_option maxRecDepth 100000 in
theorem ar_clear {w : World} {q room : Nat} {u : Value} {bs : List Nat} {vs : List Nv} (h : ArN w q room u bs vs) :
    Calls Try.prog 51 #[.pointer (some ⟨q, 0, none⟩)] w fun e w' => e = .returned (.tuple #[]) ∧ ArN w' q room (.slice none 0 0) [] [] ∧ Fr (fun k => k = q) w w' := by
  obtain ⟨c0, c1, c2⟩ := h.cells
  have f1 := free_of h.blk 1
  have f2 := free_of h.blk 2
  have hb := block_setCell (block_setCell h.blk (.slice none 0 0) (off := 1)) (.slice none 0 0) (off := 2)
  have Hb := Lib.hid hb
  have Hbig := Lib.hid h.big
  clear h hb
  go_enter Try.func51, Try.ntmps51
  go_wp2
  go_end0
  exact ⟨rfl, ⟨Hb.out, ⟨rfl, .inl ⟨rfl, rfl⟩⟩, rfl, fun i hi => absurd hi (Nat.not_lt_zero _), List.nodup_nil, Nat.zero_le _, Hbig.out⟩, ((Fr.refl (fun k => k = q) w).setCell ⟨q, 1, none⟩ _ (.inl rfl)).setCell ⟨q, 2, none⟩ _ (.inl rfl)⟩

set_option maxHeartbeats 2000000 in
set_option maxRecDepth 100000 in
theorem ar_new (room : Nat) (hr : room ≤ 1048576) (w : World) :
    Calls Try.prog 26 #[.int .i64 (room : Int)] w fun e w' => e = .returned (.pointer (some ⟨w.heap.size, 0, none⟩)) ∧ ArN w' w.heap.size room (.slice none 0 0) [] [] ∧ Fr NoF w w' := by
  have hb := heap_alloc_new w (.cells #[.int .i64 (room : Int), .slice none 0 0, .slice none 0 0] 94)
  have Hb := Lib.hid hb
  have em : max (room : Int) 0 = (room : Int) := by omega
  clear hb
  go_enter Try.func26, Try.ntmps26
  go_wp2
  go_ret
  exact ⟨rfl, ⟨Hb.out, ⟨rfl, .inl ⟨rfl, rfl⟩⟩, rfl, fun i hi => absurd hi (Nat.not_lt_zero _), List.nodup_nil, Nat.zero_le _, hr⟩, (Fr.refl _ w).alloc _⟩

theorem infoPc : (Try.prog.info? 102).map (fun i => (i.zero, i.size, i.bytes)) = some (some (.pointer none), 1, 8) := by kernel_rfl
theorem ptrsV_snoc (bs : List Nat) (b : Nat) : ptrsV (bs ++ [b]) = ptrsV bs ++ [.pointer (some ⟨b, 0, none⟩)] := by simp [ptrsV]

set_option maxHeartbeats 4000000 in
set_option maxRecDepth 100000 in
theorem ar_take {w : World} {q room : Nat} {u : Value} {bs : List Nat} {vs : List Nv} (h : ArN w q room u bs vs) (hroom : bs.length < room) (v : Nv) :
    Calls Try.prog 52 #[.pointer (some ⟨q, 0, none⟩), .agg v.arr] w fun e w' => e = .returned (.tuple #[.int .i64 ((bs.length : Int) + 1), .bool true]) ∧ ∃ u' b, ArN w' q room u' (bs ++ [b]) (vs ++ [v]) ∧ Step w w' (arFoot q u bs) (arFoot q u' (bs ++ [b])) := by
  obtain ⟨i0, hi, hz0, hz1, hz2⟩ := info_parts infoPc
  have Hi := Lib.hid hi
  have Hz0 := Lib.hid hz0
  have Hz1 := Lib.hid hz1
  have Hz2 := Lib.hid hz2
  clear hi hz0 hz1 hz2
  obtain ⟨a, cap, hu⟩ := own_any h.own
  subst hu
  have hl2 := h.big
  have hlen := h.len
  obtain ⟨n, hn⟩ : ∃ n, bs.length = n := ⟨_, rfl⟩
  obtain ⟨sg, ch, nx, tp⟩ := v
  have hst : ∃ W xb, w.alloc (.cells (Nv.arr ⟨sg, ch, nx, tp⟩) 60) = W ∧ w.heap.size = xb ∧ ArN W q room (.slice a bs.length cap) bs vs ∧ Fr NoF w W ∧ W.heap[xb]? = some (.cells (Nv.arr ⟨sg, ch, nx, tp⟩) 60 (0, 0)) :=
    ⟨_, _, rfl, rfl, h.keep ((Fr.refl NoF w).alloc _) (fun _ _ x => x), (Fr.refl NoF w).alloc _, heap_alloc_new w _⟩
  obtain ⟨W, xb, hW, hxb, hA, hF, hx⟩ := hst
  have hleft := ar_left hA
  rw [hn] at hA hleft hroom ⊢
  have hne : ((room : Int) - (n : Int) == 0) = false := by
    have : ¬ ((room : Int) - (n : Int) = 0) := by omega
    simpa using this
  have hnb : n ≤ 1048576 := by omega
  obtain ⟨lf, hlf⟩ : ∃ lf, (room : Int) - (n : Int) = lf := ⟨_, rfl⟩
  rw [hlf] at hleft hne
  have HA := Lib.hid hA
  have HF := Lib.hid hF
  have HX := Lib.hid hx
  have HL := Lib.hid hleft
  have Hn := Lib.hid hn
  have Hroom := Lib.hid hroom
  have Hlen := Lib.hid hlen
  have Hxb := Lib.hid hxb
  clear hA hF hx hleft hn hroom hlen hlf hl2 h
  unfold Nv.arr at hW ⊢
  go_enter Try.func52, Try.ntmps52
  go_upto_region 1 with fail
  clear hW hxb
  go_upto_region 3 with (go_at_call 33; refine HL.out.mono ?_; rintro e w1 ⟨rfl, k, rfl⟩)
  have hA1 : ArN (W.drewN k) q room (.slice a n cap) bs vs := HA.out.keep ((Fr.refl NoF W).drewN k) (fun _ _ x => x)
  have hx1 : (W.drewN k).heap[xb]? = some (.cells (Nv.arr ⟨sg, ch, nx, tp⟩) 60 (0, 0)) := HX.out
  have hF1 : Fr NoF w (W.drewN k) := HF.out.drewN k
  clear HL hne
  generalize W.drewN k = W1 at *
  obtain ⟨c0, c1, c2⟩ := hA1.cells
  have HA1 := Lib.hid hA1
  have HX1 := Lib.hid hx1
  have HF1 := Lib.hid hF1
  clear hA1 hx1 hF1 HA HX HF
  go_upto_region 8 with fail
  have q1 : ∀ z : InW (Fr NoF W1.drew), z.to.cell? ⟨q, 1, none⟩ = some (.slice a n cap) := fun z => z.ok.cell_ (w := W1.drew) c1 (fun x => x)
  have x0 : ∀ z : InW (Fr NoF W1.drew), z.to.cell? ⟨xb, 0, none⟩ = some (.int .u8 (sg.toNat : Int)) := fun z => z.ok.cell_ (w := W1.drew) ((cell_of (w := W1.drew) HX1.out 0).trans rfl) (fun x => x)
  have x1 : ∀ z : InW (Fr NoF W1.drew), z.to.cell? ⟨xb, 1, none⟩ = some (.int .i64 (ch : Int)) := fun z => z.ok.cell_ (w := W1.drew) ((cell_of (w := W1.drew) HX1.out 1).trans rfl) (fun x => x)
  have x2 : ∀ z : InW (Fr NoF W1.drew), z.to.cell? ⟨xb, 2, none⟩ = some (.int .i64 (nx : Int)) := fun z => z.ok.cell_ (w := W1.drew) ((cell_of (w := W1.drew) HX1.out 2).trans rfl) (fun x => x)
  have x3 : ∀ z : InW (Fr NoF W1.drew), z.to.cell? ⟨xb, 3, none⟩ = some (.pointer (some ⟨tp, 0, none⟩)) := fun z => z.ok.cell_ (w := W1.drew) ((cell_of (w := W1.drew) HX1.out 3).trans rfl) (fun x => x)
  clear c0 c1 c2
  refine wp_region_plan [(0, 2), (1, 1), (2, 1), (3, 1), (4, 1), (5, 1), (6, 1), (7, 0), (8, 0), (9, 3), (10, 1), (11, 1), (12, 3)] (by kernel_rfl) (by kernel_rfl) ?_
  simp only [planZ, List.getElem?_cons_zero, List.getElem?_cons_succ]
  repeat (first | (refine miz_skip (by rfl) ?_; (simp only [Act.put, List.setIfInBounds_toArray, List.set_cons_zero, List.set_cons_succ])) | (refine miz_step (by rfl) ?_; apply Exists.intro; refine ⟨fun u => ?_, ?_⟩; (focus (first | (unfold quietF; go_simp; first | done | exact ⟨rfl, rfl⟩))); (simp only [Act.put, List.setIfInBounds_toArray, List.set_cons_zero, List.set_cons_succ])) | (refine miz_free (by rfl) ?_; apply Exists.intro; refine ⟨?_, ?_⟩; (focus (unfold quietW; intro u; go_simp; first | done | rfl)); (simp only [Act.put, List.setIfInBounds_toArray, List.set_cons_zero, List.set_cons_succ])))
  refine miz_loud (by rfl) (fun w2 hf2 K1 hK1 => ?_)
  go_simp
  refine hK1.out _ _ ((Fr.refl _ _).alloc _) ?_
  clear hK1 K1
  have hb2 := heap_alloc_new w2 (.cells (Nv.cel ⟨sg, ch, nx, tp⟩) 101)
  have hF2 : Fr NoF W1 (w2.alloc (.cells (Nv.cel ⟨sg, ch, nx, tp⟩) 101)) := ((Fr.refl NoF W1).drew.trans hf2 (fun _ h => .inl h)).alloc _
  have hn2 : W1.heap.size ≤ w2.heap.size := hf2.size
  obtain ⟨b, hb⟩ : ∃ b, w2.heap.size = b := ⟨_, rfl⟩
  rw [hb] at hb2 hn2
  have HB2 := Lib.hid hb2
  have HF2 := Lib.hid hF2
  have Hn2 := Lib.hid hn2
  clear hb2 hF2 hn2 hf2 q1 x0 x1 x2 x3
  refine miz_loud (by rfl) (fun w3 hf3 K1 hK1 => ?_)
  go_simp
  refine hK1.out _ _ ((Fr.refl _ _).alloc _) ?_
  clear hK1 K1
  clear hb
  refine miz_turn (by rfl) (fun w4 hf4 K1 hK1 => ?_)
  have hpb := hf4.keep (heap_alloc_new w3 (.cells #[.pointer (some ⟨b, 0, none⟩)] 102)) (fun x => x)
  have hf34 : Fr NoF (w2.alloc (.cells (Nv.cel ⟨sg, ch, nx, tp⟩) 101)) w4 := (hf3.alloc _).trans hf4 (fun _ h => .inl h)
  have hb4 := hf34.keep HB2.out (fun x => x)
  have hF4 : Fr NoF W1 w4 := HF2.out.trans hf34 (fun _ h => .inl h)
  have hA4 := HA1.out.keep hF4 (fun _ _ x => x)
  have hn4 := Hn.out
  obtain ⟨pb, hpbe⟩ : ∃ pb, w3.heap.size = pb := ⟨_, rfl⟩
  rw [hpbe] at hpb ⊢
  have hown4 := hA4.own
  rw [hn4] at hown4
  obtain ⟨g, cap2, w5, hr, hown, hgrow, hat, hlt5, _⟩ := run_append_my (P := Try.prog) w4 92 92 0 102 i0 (.pointer none) 1 8 Try.underlying92 Hi.out Hz0.out Hz1.out Hz2.out rfl (by decide) (.slice a n cap) n (ptrsV bs) hown4 ⟨pb, 0, none⟩ 1 1 [.pointer (some ⟨b, 0, none⟩)] rfl (World.news_of_block (cs := #[.pointer (some ⟨b, 0, none⟩)]) (t := 102) (fr := (0, 0)) hpb) (by simp [Value.oneCell']) (by decide) (by unfold maxLen; omega) (by omega) (Nat.zero_le _) _ rfl
  have hfg : Fr (fun k => (Value.slice a n cap).ownBlock = some k) w4 w5 := (Fr.refl _ w4).grown hgrow (fun k hk => .inl hk)
  have hnot : ∀ (k : Nat) (cs : Array Value) (t : TypeId) (fr : Nat × Nat), w4.heap[k]? = some (.cells cs t fr) → t ≠ 102 → ¬ (Value.slice a n cap).ownBlock = some k := fun k cs t fr hk ht e => by
    obtain ⟨cur, hc⟩ := own_ty hown4 e
    exact ne_of_ty hk hc ht rfl
  have hq5 := hfg.keep hA4.blk (hnot _ _ _ _ hA4.blk (by decide))
  have hb5 := hfg.keep hb4 (hnot _ _ _ _ hb4 (by decide))
  have hold : ∀ i, i < bs.length → w5.heap[bs.getD i 0]? = some (.cells (vs.getD i ⟨0, 0, 0, 0⟩).cel 101 (0, 0)) := fun i hi => hfg.keep (hA4.cell i hi) (hnot _ _ _ _ (hA4.cell i hi) (by decide))
  have hnew : ∀ k ∈ bs, k ≠ b := fun k hk e => by
    obtain ⟨i, hi, h2⟩ := HA1.out.in_ hk
    have := lt_of_block (HA1.out.cell i hi)
    have := Hn2.out
    omega
  refine op_append _ _ 92 rfl hr ?_
  refine hK1.out _ _ ?_
  clear hK1 K1 hr
  simp only [Act.put, List.setIfInBounds_toArray, List.set_cons_zero, List.set_cons_succ]
  have q5 : ∀ z : InW (Fr NoF w5), z.to.cell? ⟨q, 1, none⟩ = some (.slice a n cap) := fun z => z.ok.cell_ ((cell_of hq5 1).trans rfl) (fun x => x)
  have Hq5 := Lib.hid hq5
  have Hb5 := Lib.hid hb5
  have Hold := Lib.hid hold
  have Hnew := Lib.hid hnew
  have Hown := Lib.hid hown
  have HF5 := Lib.hid (((HF1.out.trans hF4 (fun _ h => .inl h)).mono (T := arFoot q (.slice a n cap) bs) (fun _ h => h.elim)).trans hfg (fun k hk => .inl (.inr (.inl hk))))
  have Hat : Hid ((Value.slice a n cap).ownBlock = some g ∨ w.heap.size ≤ g) := Lib.hid (hat.imp id (fun h => by have := HF1.out.size; have := hF4.size; omega))
  have Hbig := Lib.hid HA1.out.big
  have Hnd := Lib.hid HA1.out.nodup
  have Hn2' : Hid (w.heap.size ≤ b) := Lib.hid (by have := HF1.out.size; have := Hn2.out; omega)
  clear hq5 hb5 hold hnew hown hfg hnot hgrow hat hlt5 hown4 hA4 hF4 hb4 hf34 hpb hf3 hf4 hn4 HA1 HX1 HF1 HB2 HF2 Hn2
  repeat (first | (refine miz_skip (by rfl) ?_; (simp only [Act.put, List.setIfInBounds_toArray, List.set_cons_zero, List.set_cons_succ])) | (refine miz_step (by rfl) ?_; apply Exists.intro; refine ⟨fun u => ?_, ?_⟩; (focus (first | (unfold quietF; go_simp; first | done | exact ⟨rfl, rfl⟩))); (simp only [Act.put, List.setIfInBounds_toArray, List.set_cons_zero, List.set_cons_succ])) | (refine miz_free (by rfl) ?_; apply Exists.intro; refine ⟨?_, ?_⟩; (focus (unfold quietW; intro u; go_simp; first | done | rfl)); (simp only [Act.put, List.setIfInBounds_toArray, List.set_cons_zero, List.set_cons_succ])))
  refine miz_turn (by rfl) (fun w6 hf6 K1 hK1 => ?_)
  have c6 := hf6.cell_ ((cell_of Hq5.out 1).trans rfl) (fun x => x)
  have f6 := free_of (hf6.keep Hq5.out (fun x => x)) 1
  go_simp
  refine hK1.out _ _ ?_
  clear hK1 K1
  refine miz_nil (fun w7 hf7 => ?_)
  have hq6 := hf6.keep Hq5.out (fun x => x)
  have hset : Fr (fun k => k = q) w6 (w6.setCell ⟨q, 1, none⟩ (.slice (some ⟨g, 0, none⟩) (n + 1) cap2)) := (Fr.refl (fun k => k = q) w6).setCell ⟨q, 1, none⟩ _ (.inl rfl)
  have hq7 := hf7.keep (block_setCell hq6 (.slice (some ⟨g, 0, none⟩) (n + 1) cap2) (off := 1)) (fun x => x)
  have hown6 := own_keep Hown.out hf6 (fun _ _ x => x)
  have hown7 := own_keep (own_keep hown6 hset (fun k hk e => by obtain ⟨cur, hc⟩ := own_ty hown6 hk; exact ne_of_ty hc hq6 (by decide) e)) hf7 (fun _ _ x => x)
  have hcel : ∀ (k : Nat) (cs : Array Value), w5.heap[k]? = some (.cells cs 101 (0, 0)) → w7.heap[k]? = some (.cells cs 101 (0, 0)) := fun k cs hk => by
    have h6 := hf6.keep hk (fun x => x)
    exact hf7.keep (hset.keep h6 (fun e => ne_of_ty h6 hq6 (by decide) e)) (fun x => x)
  have hfin : ArN w7 q room (.slice (some ⟨g, 0, none⟩) (n + 1) cap2) (bs ++ [b]) (vs ++ [⟨sg, ch, nx, tp⟩]) := by
    refine ⟨hq7, ?_, ?_, fun i hi => ?_, ?_, ?_, Hbig.out⟩
    · rw [List.length_append, List.length_singleton, Hn.out, ptrsV_snoc]
      exact hown7
    · rw [List.length_append, List.length_append, Hlen.out]
      rfl
    · rw [List.length_append, List.length_singleton] at hi
      rcases Nat.lt_or_ge i bs.length with h1 | h1
      · rw [show (bs ++ [b]).getD i 0 = bs.getD i 0 by simp [List.getD, List.getElem?_append_left h1], show (vs ++ [(⟨sg, ch, nx, tp⟩ : Nv)]).getD i ⟨0, 0, 0, 0⟩ = vs.getD i ⟨0, 0, 0, 0⟩ by simp [List.getD, List.getElem?_append_left (show i < vs.length by rw [Hlen.out]; exact h1)]]
        exact hcel _ _ (Hold.out i h1)
      · obtain rfl : i = bs.length := by omega
        rw [show (bs ++ [b]).getD bs.length 0 = b by simp [List.getD], show (vs ++ [(⟨sg, ch, nx, tp⟩ : Nv)]).getD bs.length ⟨0, 0, 0, 0⟩ = ⟨sg, ch, nx, tp⟩ by rw [← Hlen.out]; simp [List.getD]]
        exact hcel _ _ Hb5.out
    · rw [List.nodup_append]
      exact ⟨Hnd.out, by simp, fun x hx y hy e => by simp at hy; subst hy; subst e; exact Hnew.out x hx rfl⟩
    · rw [List.length_append, List.length_singleton, Hn.out]
      exact Hroom.out
  have hfr : Fr (arFoot q (.slice a n cap) bs) w w7 := ((HF5.out.trans hf6 (fun _ h => h.elim)).trans hset (fun k hk => .inl (.inl hk))).trans hf7 (fun _ h => h.elim)
  have hst : Step w w7 (arFoot q (.slice a n cap) bs) (arFoot q (.slice (some ⟨g, 0, none⟩) (n + 1) cap2) (bs ++ [b])) := ⟨hfr, fun k hk => by
    rcases hk with hk | hk | hk
    · exact .inl (.inl hk)
    · have : g = k := by simpa [Value.ownBlock] using hk
      subst this
      exact Hat.out.imp (fun h => .inr (.inl h)) id
    · rcases List.mem_append.1 hk with h1 | h1
      · exact .inl (.inr (.inr h1))
      · have : k = b := by simpa using h1
        subst this
        exact .inr Hn2'.out⟩
  have k1 : w7.cell? ⟨q, 1, none⟩ = some (.slice (some ⟨g, 0, none⟩) (n + 1) cap2) := (cell_of hq7 1).trans rfl
  have Hfin := Lib.hid hfin
  have Hst := Lib.hid hst
  clear hq6 hset hq7 hown6 hown7 hcel hfin hfr hst hf6 hf7 c6 f6 q5 Hq5 Hb5 Hold Hown HF5
  go_wp2
  go_ret2
  exact ⟨rfl, _, _, Hfin.out, Hst.out⟩
end Go.Proofs.Ytopnnbhiehljlaa
