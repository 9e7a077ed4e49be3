/- The document's trees (cassoneref04): a number is put. -/
import Derived.Test.YtpddocehjljofaaRt
import Derived.StillTailTactics
import Derived.Deep.CutBlock
import Derived.Deep.CutRange
namespace Go.Proofs.Ytpddocehjljofaa
set_option linter.unusedVariables false
open Go.RowKit Go.My

theorem RefA.away {w w' : World} {r : Value} {a : Rc.A} {S : Nat → Prop} (h : RefA w r a) (hf : Fr S w w') (hr : ∀ g, rowOf r = some g → ¬ S g) : RefA w' r a := by
  obtain ⟨x, cap, L, S0, ho, rfl, hr2⟩ := h.ex
  exact ⟨x, cap, L, S0, own_keep ho hf (fun k hk => hr k hk), rfl, hr2⟩
theorem RefA.rowTy {w : World} {r : Value} {a : Rc.A} (h : RefA w r a) {g : Nat} (hg : rowOf r = some g) : ∃ cur, w.heap[g]? = some (.cells cur 5 (0, 0)) := by
  obtain ⟨x, cap, L, S0, ho, rfl, hr2⟩ := h.ex
  exact own_ty ho hg

/-- Bits, from the place where one stands on. -/
def bsAt (back : Bool) (x i j : Nat) : List Nat := if back then Rc.bitsLo x i j else Rc.bitsHi x j
theorem bsAt_succ (back : Bool) (x i j : Nat) : bsAt back x i (j + 1) = (x / 2 ^ (if back then i else j) % 2) :: bsAt back x (i + 1) j := by cases back <;> rfl
theorem bsAt_len (back : Bool) (x i j : Nat) : (bsAt back x i j).length = j := by cases back <;> simp [bsAt, Rc.bitsLo_len, Rc.bitsHi_len]
theorem bsAt_two (back : Bool) (x i j : Nat) : ∀ b ∈ bsAt back x i j, b < 2 := by cases back <;> simp only [bsAt, if_true, Bool.false_eq_true, if_false]; exact Rc.bitsHi_two _ _; exact Rc.bitsLo_two _ _ _

/-- What stands while the document puts a number's bits. -/
structure RtSt (w wr : World) (r0 : Value) (a : Rc.A) (be bz g n cap : Nat) (O : List Rc.Op) (F : List Nat) (l : List Rc.Op) (U : List Nat) (m : Nat) (bs : List Nat) (u0 u1 : Value) : Prop where
  bx : wr.heap[be]? = some (.cells #[u0, u1] 29 (0, 0))
  bzz : wr.heap[bz]? = some (.cells #[.slice none 0 0, .int .u64 0] 29 (0, 0))
  ra : RefA wr (.agg #[u0, u1]) (a.run l)
  rt : RtAt wr g n cap U
  pl : Rc.Pl U n
  ops : l ++ (Rc.putT U m bs).1 = O
  fin : (Rc.putT U m bs).2.1 = F
  fine : Rc.AllFine l
  fr : Fr (fun _ => False) w wr
  hbe : w.heap.size ≤ be
  hbz : w.heap.size ≤ bz
  hg : w.heap.size ≤ g
  ne : bz ≠ be
  row : ∀ k, rowOf (.agg #[u0, u1]) = some k → rowOf r0 = some k ∨ w.heap.size ≤ k

theorem RtSt.fresh {w wr w' : World} {r0 : Value} {a : Rc.A} {be bz g n cap : Nat} {O l : List Rc.Op} {F U : List Nat} {m : Nat} {bs : List Nat} {u0 u1 : Value} (h : RtSt w wr r0 a be bz g n cap O F l U m bs u0 u1) (hf : Fr (fun _ => False) wr w') : RtSt w w' r0 a be bz g n cap O F l U m bs u0 u1 :=
  ⟨hf.keep h.bx (fun h => h), hf.keep h.bzz (fun h => h), h.ra.keep hf, h.rt.keep hf (fun h => h), h.pl, h.ops, h.fin, h.fine, h.fr.trans hf (fun _ h => h.elim), h.hbe, h.hbz, h.hg, h.ne, h.row⟩

theorem RtSt.next {w wr w6 : World} {r0 : Value} {a : Rc.A} {be bz g n cap : Nat} {O l : List Rc.Op} {F U : List Nat} {m c : Nat} {bs : List Nat} {u0 u1 z0 z1 : Value} (h : RtSt w wr r0 a be bz g n cap O F l U m (c :: bs) u0 u1) (hm : m < n) (hc : c < 2)
    (hr : RefA w6 (.agg #[z0, z1]) ((a.run l).bit (U.getD m 0) c)) (hf : Fr (fun _ => False) wr w6) (hw : ∀ k, rowOf (.agg #[z0, z1]) = some k → rowOf (.agg #[u0, u1]) = some k ∨ wr.heap.size ≤ k) :
    RtSt w (((w6.setCell ⟨be, 0, none⟩ z0).setCell ⟨be, 1, none⟩ z1).setCell ⟨g, m, none⟩ (.int .u64 ((Rc.learn (U.getD m 0) c : Nat) : Int))) r0 a be bz g n cap O F (l ++ [.bit (U.getD m 0) c]) (U.set m (Rc.learn (U.getD m 0) c)) (2 * m + c) bs z0 z1 := by
  have h6 := h.fresh hf
  have hpo := h.pl.ok m (by rw [h.pl.len]; exact hm)
  obtain ⟨cur, hty⟩ := h6.rt.ty
  have hgb : g ≠ be := ne_of_ty hty h6.bx (by decide)
  have hgz : g ≠ bz := ne_of_ty hty h6.bzz (by decide)
  have e1 := block_setCell (off := 0) h6.bx z0
  have e2 := block_setCell (off := 1) e1 z1
  have n1 := block_setCell_other (off := 0) (b := be) h6.bzz h.ne z0
  have n2 := block_setCell_other (off := 1) (b := be) n1 h.ne z1
  have hf2 : Fr (fun k => k = be) w6 ((w6.setCell ⟨be, 0, none⟩ z0).setCell ⟨be, 1, none⟩ z1) := ((Fr.refl (fun k => k = be) w6).setCell ⟨be, 0, none⟩ z0 (.inl rfl)).setCell ⟨be, 1, none⟩ z1 (.inl rfl)
  have hf3 : Fr (fun k => k = be ∨ k = g) w6 (((w6.setCell ⟨be, 0, none⟩ z0).setCell ⟨be, 1, none⟩ z1).setCell ⟨g, m, none⟩ (.int .u64 ((Rc.learn (U.getD m 0) c : Nat) : Int))) := (hf2.mono (fun i hi => .inl (.inl hi))).setCell _ _ (.inl (.inr rfl))
  refine ⟨block_setCell_other (off := m) (b := g) e2 (Ne.symm hgb) _, block_setCell_other (off := m) (b := g) n2 (Ne.symm hgz) _, ?_, (h6.rt.keep hf2 hgb).set _, h.pl.set _ _ (hpo.learn c), ?_, h.fin, h.fine.append (Rc.AllFine.cons ⟨hpo, hc⟩ Rc.AllFine.nil), ?_, h.hbe, h.hbz, h.hg, h.ne, ?_⟩
  · rw [Rc.A.run_append]
    refine RefA.away hr hf3 (fun k hk hk2 => ?_)
    obtain ⟨cur2, ht2⟩ := hr.rowTy hk
    rcases hk2 with rfl | rfl
    · exact ne_of_ty ht2 h6.bx (by decide) rfl
    · exact ne_of_ty ht2 hty (by decide) rfl
  · rw [← h.ops]; simp [Rc.putT]
  · exact h6.fr.trans hf3 (fun k hk => by rcases hk with rfl | rfl; exact .inr h.hbe; exact .inr h.hg)
  · intro k hk
    rcases hw k hk with h1 | h1
    · exact h.row k h1
    · right; have := h.fr.size; omega

set_option maxHeartbeats 4000000 in
set_option maxRecDepth 100000 in
theorem ref_tree_put (r : Value) (a : Rc.A) (g n cap : Nat) (U : List Nat) (N x : Nat) (back : Bool) (w : World) (h : RefA w r a) (hgd : a.Good) (hk : a.k ≤ 90000000) (ht : RtAt w g n cap U) (hp : Rc.Pl U n) (hn : n = 2 ^ N) (hN : N ≤ 16) (hN1 : 1 ≤ N) (hx : x < 2147483648) :
    Calls Try.prog 41 #[r, .slice (some ⟨g, 0, none⟩) n cap, .int .i64 (N : Int), .int .i64 (x : Int), .bool back] w fun e w' => ∃ r' g' cap', e = .returned (.tuple #[r', .slice (some ⟨g', 0, none⟩) n cap']) ∧ RefA w' r' (a.run (Rc.putT U 1 (bsAt back x 0 N)).1) ∧ RtAt w' g' n cap' (Rc.putT U 1 (bsAt back x 0 N)).2.1 ∧ Fr (fun _ => False) w w' ∧ w.heap.size ≤ g' ∧ (∀ k, rowOf r' = some k → rowOf r = some k ∨ w.heap.size ≤ k) := by
  obtain ⟨i0, hi, hz0, hz1, hz2⟩ := info_parts info_u64
  obtain ⟨x0, cap0, L0, S0, ho, rfl, hr⟩ := h.ex
  have Hi := Lib.hid hi
  have Hz0 := Lib.hid hz0
  have Hz1 := Lib.hid hz1
  have Hz2 := Lib.hid hz2
  have H := Lib.hid h
  have HT := Lib.hid ht
  have HP := Lib.hid hp
  have HG := Lib.hid hgd
  have HK := Lib.hid hk
  have HN := Lib.hid hn
  have Hroom := Lib.hid (Rc.Room.start N hN1)
  have hn65 : n ≤ 65536 := by rw [hn]; exact (Rc.pow_16 N hN)
  have hn1 : 0 < n := by rw [hn]; exact Nat.pow_pos (by decide)
  have Hn1 := Lib.hid hn1
  have hb1 : 0 + n ≤ maxLen := by unfold maxLen; omega
  have hb2 : (0 + n) * 8 ≤ 140737488355328 := by omega
  have Hb1 := Lib.hid hb1
  have Hb2 := Lib.hid hb2
  obtain ⟨O, hO⟩ : ∃ O, (Rc.putT U 1 (bsAt back x 0 N)).1 = O := ⟨_, rfl⟩
  obtain ⟨F, hF⟩ : ∃ F, (Rc.putT U 1 (bsAt back x 0 N)).2.1 = F := ⟨_, rfl⟩
  have HO := Lib.hid hO
  have HF := Lib.hid hF
  rw [hO, hF]
  clear hi hz0 hz1 hz2 h ht hp hgd hk hn ho hr hn1 hb1 hb2 hO hF
  go_enter Try.func41, Try.ntmps41
  go_upto_region 1 with fail
  have hst : ∃ W be bz, ((w.alloc (.cells #[.slice x0 L0.length cap0, .int .u64 (S0 : Int)] 29)).alloc (.cells #[.slice none 0 0, .int .u64 0] 29)) = W ∧ w.heap.size = be ∧ w.heap.size + 1 = bz ∧ Fr (fun _ => False) w W ∧ W.heap[be]? = some (.cells #[.slice x0 L0.length cap0, .int .u64 (S0 : Int)] 29 (0, 0)) ∧ W.heap[bz]? = some (.cells #[.slice none 0 0, .int .u64 0] 29 (0, 0)) := by
    have s1 : (w.alloc (.cells #[.slice x0 L0.length cap0, .int .u64 (S0 : Int)] 29)).heap.size = w.heap.size + 1 := by simp
    have n2 := heap_alloc_new (w.alloc (.cells #[.slice x0 L0.length cap0, .int .u64 (S0 : Int)] 29)) (.cells #[.slice none 0 0, .int .u64 0] 29)
    rw [s1] at n2
    exact ⟨_, _, _, rfl, rfl, rfl, ((Fr.refl _ _).alloc _).alloc _, block_alloc (heap_alloc_new w _), n2⟩
  obtain ⟨W, be, bz, hW, hbe, hbz, hf0, k1, k2⟩ := hst
  have Hbe := Lib.hid hbe
  have Hbz := Lib.hid hbz
  have hle : w.heap.size ≤ be := by omega
  have hlz : w.heap.size ≤ bz := by omega
  have hne : bz ≠ be := by omega
  have HLE := Lib.hid hle
  have HLZ := Lib.hid hlz
  have HNE := Lib.hid hne
  rw [hW]
  rw [hbz, hbe]
  have HF0 := Lib.hid hf0
  have K1 := Lib.hid k1
  have K2 := Lib.hid k2
  have HTW := Lib.hid (HT.out.keep hf0 (fun h => h))
  have HRW := Lib.hid (H.out.keep hf0)
  clear hW hbe hbz hf0 k1 k2 hle hlz hne
  go_upto_region 2 with (at_builtin; refine wpList_append_my _ rfl _ _ 71 rfl 0 27 i0 (.int .u64 0) 1 8 Try.underlying71 Hi.out Hz0.out Hz1.out Hz2.out rfl (by decide) (.slice (some ⟨W.heap.size, 0, none⟩) 0 0) 0 [] (by rfl) (World.ownsRow_made W #[] 0 (Nat.zero_le _) (by decide) (by simp)) ⟨g, 0, none⟩ n cap (c64 U) (by rfl) (by rw [c64_len, HTW.out.len]; omega) (HTW.out.alloc _ |>.cells (g := g) rfl) (by simp [c64, Value.oneCell']) Hn1.out Hb1.out Hb2.out (by simp) (W.heap.size + 1) (by simp) ?_; intro g2 cap2 w1 hown1 hgrow hat hlt2 hsame; have Hown := Lib.hid hown1; have hF1 : Fr (fun _ => False) W w1 := ((Fr.refl _ _).alloc _).grown hgrow (fun k hk => .inr (by simp [Value.ownBlock] at hk; omega)); have hat2 : W.heap.size ≤ g2 := (by rcases hat with h | h; (simp [Value.ownBlock] at h; omega); omega); have Hat := Lib.hid hat2; have HF1 := Lib.hid hF1; simp only [Nat.zero_add, List.nil_append] at Hown; clear hown1 hgrow hat hat2 hlt2 hsame hF1)
  have hst : RtSt w w1 (.agg #[.slice x0 L0.length cap0, .int .u64 (S0 : Int)]) a be bz g2 n cap2 O F [] U 1 (bsAt back x 0 N) (.slice x0 L0.length cap0) (.int .u64 (S0 : Int)) :=
    ⟨HF1.out.keep K1.out (fun h => h), HF1.out.keep K2.out (fun h => h), HRW.out.keep HF1.out, Hown.out, HP.out, HO.out, HF.out, Rc.AllFine.nil, HF0.out.trans HF1.out (fun _ h => h.elim), HLE.out, HLZ.out, Nat.le_trans HF0.out.size Hat.out, HNE.out, fun k hk => .inl hk⟩
  have Hst := Lib.hid hst
  clear hst HTW HRW K1 K2 HF0 Hown Hat HF1
  have hNi : (N : Int) ≤ 16 := by omega
  have hN0 : (1 : Int) ≤ (N : Int) := by omega
  have hni : (n : Int) ≤ 65536 := by omega
  go_wp2
  go_loopw [12, 13] (fun v12 v13 wr => ∃ (i j m : Nat) (l : List Rc.Op) (U' : List Nat) (u0 u1 : Value), i + j = N ∧ v13 = .int .i64 (i : Int) ∧ v12 = .int .i64 (m : Int) ∧ m ≤ 131072 ∧ Hid (l.length = i) ∧ Hid (Rc.Room m N j) ∧ Hid (RtSt w wr (.agg #[.slice x0 L0.length cap0, .int .u64 (S0 : Int)]) a be bz g2 n cap2 O F l U' m (bsAt back x i j) u0 u1)) (fun _ v13 _ => (16 - intOf v13).toNat)
  case atStart => exact ⟨0, N, 1, [], U, _, _, by omega, rfl, rfl, by omega, rfl, Hroom.out, Hst.out⟩
  case round =>
    obtain ⟨i, j, m, l, U', u0, u1, hq, rfl, rfl, hmb, Hl, Hr, HS⟩ := hrel
    clear Hst
    have hii : (i : Int) ≤ 16 := by omega
    rcases j with _ | j
    · obtain rfl : i = N := by omega
      obtain ⟨y0, y1, y2, y3, y4, y5, y6⟩ := HS.out.ra.ex
      obtain ⟨rfl, rfl⟩ : u0 = .slice y0 y2.length y1 ∧ u1 = .int .u64 (y3 : Int) := by simpa using y5
      clear y4 y5 y6
      have c0 : wr.cell? ⟨be, 0, none⟩ = some (.slice y0 y2.length y1) := (cell_of HS.out.bx 0).trans rfl
      have c1 : wr.cell? ⟨be, 1, none⟩ = some (.int .u64 (y3 : Int)) := (cell_of HS.out.bx 1).trans rfl
      have d0 : wr.cell? ⟨bz, 0, none⟩ = some (.slice none 0 0) := (cell_of HS.out.bzz 0).trans rfl
      have d1 : wr.cell? ⟨bz, 1, none⟩ = some (.int .u64 0) := (cell_of HS.out.bzz 1).trans rfl
      have f0 := free_of HS.out.bzz 0
      have f1 := free_of HS.out.bzz 1
      have hO := HS.out.ops
      have hF := HS.out.fin
      rw [show bsAt back x i 0 = [] by cases back <;> rfl] at hO hF
      simp only [Rc.putT, List.append_nil] at hO hF
      have HO2 := Lib.hid hO
      have HF2 := Lib.hid hF
      have HNE2 := Lib.hid HS.out.ne
      obtain ⟨cur, hty⟩ := HS.out.rt.ty
      have hgz : g2 ≠ bz := ne_of_ty hty HS.out.bzz (by decide)
      have hfz : Fr (fun k => k = bz) wr ((wr.setCell ⟨bz, 0, none⟩ (.slice y0 y2.length y1)).setCell ⟨bz, 1, none⟩ (.int .u64 (y3 : Int))) := ((Fr.refl (fun k => k = bz) wr).setCell ⟨bz, 0, none⟩ (.slice y0 y2.length y1) (.inl rfl)).setCell ⟨bz, 1, none⟩ (.int .u64 (y3 : Int)) (.inl rfl)
      have hra : RefA ((wr.setCell ⟨bz, 0, none⟩ (.slice y0 y2.length y1)).setCell ⟨bz, 1, none⟩ (.int .u64 (y3 : Int))) (.agg #[(.slice y0 y2.length y1), (.int .u64 (y3 : Int))]) (a.run l) := RefA.away HS.out.ra hfz (fun k hk hk2 => by
        obtain ⟨cur2, ht2⟩ := HS.out.ra.rowTy hk
        subst hk2
        exact ne_of_ty ht2 HS.out.bzz (by decide) rfl)
      have hrt := HS.out.rt.keep hfz hgz
      rw [hO] at hra
      rw [hF] at hrt
      have hfw := (HS.out.fr.trans hfz (fun k hk => by subst hk; exact .inr HS.out.hbz) : Fr (fun _ => False) w _)
      have HA := Lib.hid hra
      have HT2 := Lib.hid hrt
      have HW := Lib.hid hfw
      have Hg := Lib.hid HS.out.hg
      have Hrow := Lib.hid HS.out.row
      clear hq hO hF hty hgz hfz hra hrt hfw
      go_wp2
      refine bodyPost_ret (v := .tuple #[.agg #[(.slice y0 y2.length y1), (.int .u64 (y3 : Int))], .slice (some ⟨g2, 0, none⟩) n cap2]) ?_ rfl ?_
      · simp [results, Try.results41, go_sem, d0, d1]
      · exact ⟨_, _, _, rfl, HA.out, HT2.out, HW.out, Hg.out, Hrow.out⟩
    · have hml : m < n := by rw [HN.out]; exact Hr.out.lt
      have hmi : (m : Int) < (n : Int) := by omega
      have hm0 : (0 : Int) ≤ (m : Int) := by omega
      have c0 : wr.cell? ⟨be, 0, none⟩ = some u0 := (cell_of HS.out.bx 0).trans rfl
      have c1 : wr.cell? ⟨be, 1, none⟩ = some u1 := (cell_of HS.out.bx 1).trans rfl
      have hcg := HS.out.rt.get hml
      have hpo := HS.out.pl.ok m (by rw [HS.out.pl.len]; exact hml)
      have HS' := HS
      rw [bsAt_succ] at HS'
      have hx1 := ref_bitof x j wr (by omega) (by omega)
      have hx2 := ref_bitof x i wr (by omega) (by omega)
      obtain ⟨cj, hcj⟩ : ∃ c, x / 2 ^ j % 2 = c := ⟨_, rfl⟩
      obtain ⟨ci, hci⟩ : ∃ c, x / 2 ^ i % 2 = c := ⟨_, rfl⟩
      rw [hcj] at hx1
      rw [hci] at hx2
      have Hx1 := Lib.hid hx1
      have Hx2 := Lib.hid hx2
      have hcj2 : cj < 2 := by rw [← hcj]; exact Nat.mod_lt _ (by decide)
      have hci2 : ci < 2 := by rw [← hci]; exact Nat.mod_lt _ (by decide)
      have hnj : (N : Int) - 1 - (i : Int) = (j : Int) := by omega
      obtain ⟨c, hc⟩ : ∃ c, x / 2 ^ (if back then i else j) % 2 = c := ⟨_, rfl⟩
      have hcc : c = if back then ci else cj := by rw [← hc, ← hci, ← hcj]; cases back <;> rfl
      rw [hc] at HS'
      have Hcc := Lib.hid hcc
      obtain ⟨y, hy⟩ : ∃ y, U'.getD m 0 = y := ⟨_, rfl⟩
      rw [hy] at hcg hpo
      have hc2 : c < 2 := by rw [hcc]; split <;> assumption
      have Hc2 := Lib.hid hc2
      have hgda := HG.out.run HS.out.fine
      have hkk : (a.run l).k ≤ 100000000 := by have := run_k a l; have := HK.out; have := Hl.out; omega
      have hd := ref_bit (.agg #[u0, u1]) (a.run l) y c wr.drew (HS.out.ra.keep (Fr.refl _ _).drew) hgda hkk hpo
      have Hd := Lib.hid hd
      have Hy := Lib.hid hy
      have Hml := Lib.hid hml
      have Hr2 : Hid (Rc.Room (2 * m + c) N j) := Hr.out.next hc2
      have Hq := Lib.hid hq
      clear hcj hci hx1 hx2 hc hcc hpo hgda hkk hd hy hml hq HS c0 c1 hcg
      cases back
      · obtain rfl : c = cj := Hcc.out
        go_upto_region 9 with (go_at_call 74; refine Hx1.out.mono ?_; rintro r1 w1 ⟨rfl, rfl⟩)
        go_cut [33] from 18 to 49 (fun _ wx => ∃ z0 z1, Hid (RtSt w wx (.agg #[.slice x0 L0.length cap0, .int .u64 (S0 : Int)]) a be bz g2 n cap2 O F (l ++ [.bit y c]) (U'.set m (Rc.learn y c)) (2 * m + c) (bsAt false x (i + 1) j) z0 z1))
        case first =>
          have hcg := HS'.out.rt.get Hml.out
          rw [Hy.out] at hcg
          have c0 : wr.cell? ⟨be, 0, none⟩ = some u0 := (cell_of HS'.out.bx 0).trans rfl
          have c1 : wr.cell? ⟨be, 1, none⟩ = some u1 := (cell_of HS'.out.bx 1).trans rfl
          obtain ⟨cur, hty⟩ := HS'.out.rt.ty
          have hgb : g2 ≠ be := ne_of_ty hty HS'.out.bx (by decide)
          have hgb2 : be ≠ g2 := Ne.symm hgb
          clear hty
          go_region_with (go_at_call 21; refine Hd.out.mono ?_; rintro r5 w6 ⟨r6, rfl, h1, h2, h3⟩; obtain ⟨z0, zc, zL, zS, zo, rfl, zr⟩ := h1.ex; have hf6 : Fr (fun _ => False) wr w6 := (Fr.refl _ _).drew.trans h2 (fun _ h => .inl h); have HS6 := HS'.out.next Hml.out Hc2.out (by rw [Hy.out]; exact h1) hf6 h3; rw [Hy.out] at HS6; have HS7 := Lib.hid HS6; have hb6 := hf6.keep HS'.out.bx (fun h => h); have k0 : w6.cell? ⟨be, 0, none⟩ = some u0 := (cell_of hb6 0).trans rfl; have k1 : w6.cell? ⟨be, 1, none⟩ = some u1 := (cell_of hb6 1).trans rfl; have kf0 := free_of hb6 0; have kf1 := free_of hb6 1; have hq6 := HS'.out.rt.keep hf6 (fun h => h); have kq := hq6.get Hml.out; rw [Hy.out] at kq; have kfq := World.ownsRow.frozenAt hq6 m; clear h1 h2 h3 zo zr hb6 hq6 HS6 hf6)
          all_goals go_wp2
          all_goals go_meet
          all_goals exact ⟨_, _, HS7⟩
        case rest =>
          obtain ⟨z0, z1, HS8⟩ := hcut
          have hci : (c : Int) < 2 := by omega
          go_wp2
          go_roundw
          case rel => exact ⟨i + 1, j, 2 * m + c, _, _, _, _, by have := Hq.out; omega, by go_num, by go_num, by omega, by show _ = _; have := Hl.out; simp; omega, Hr2, HS8⟩
          case measure => simp [intOf]; omega
      · obtain rfl : c = ci := Hcc.out
        go_upto_region 9 with (first | (go_at_call 74; (with_reducible refine Hx1.out.mono ?_); rintro r1 w1 ⟨rfl, rfl⟩) | (go_at_call 74; (with_reducible refine Hx2.out.mono ?_); rintro r1 w1 ⟨rfl, rfl⟩))
        go_cut [33] from 18 to 49 (fun _ wx => ∃ z0 z1, Hid (RtSt w wx (.agg #[.slice x0 L0.length cap0, .int .u64 (S0 : Int)]) a be bz g2 n cap2 O F (l ++ [.bit y c]) (U'.set m (Rc.learn y c)) (2 * m + c) (bsAt true x (i + 1) j) z0 z1))
        case first =>
          have hcg := HS'.out.rt.get Hml.out
          rw [Hy.out] at hcg
          have c0 : wr.cell? ⟨be, 0, none⟩ = some u0 := (cell_of HS'.out.bx 0).trans rfl
          have c1 : wr.cell? ⟨be, 1, none⟩ = some u1 := (cell_of HS'.out.bx 1).trans rfl
          obtain ⟨cur, hty⟩ := HS'.out.rt.ty
          have hgb : g2 ≠ be := ne_of_ty hty HS'.out.bx (by decide)
          have hgb2 : be ≠ g2 := Ne.symm hgb
          clear hty
          go_region_with (go_at_call 21; refine Hd.out.mono ?_; rintro r5 w6 ⟨r6, rfl, h1, h2, h3⟩; obtain ⟨z0, zc, zL, zS, zo, rfl, zr⟩ := h1.ex; have hf6 : Fr (fun _ => False) wr w6 := (Fr.refl _ _).drew.trans h2 (fun _ h => .inl h); have HS6 := HS'.out.next Hml.out Hc2.out (by rw [Hy.out]; exact h1) hf6 h3; rw [Hy.out] at HS6; have HS7 := Lib.hid HS6; have hb6 := hf6.keep HS'.out.bx (fun h => h); have k0 : w6.cell? ⟨be, 0, none⟩ = some u0 := (cell_of hb6 0).trans rfl; have k1 : w6.cell? ⟨be, 1, none⟩ = some u1 := (cell_of hb6 1).trans rfl; have kf0 := free_of hb6 0; have kf1 := free_of hb6 1; have hq6 := HS'.out.rt.keep hf6 (fun h => h); have kq := hq6.get Hml.out; rw [Hy.out] at kq; have kfq := World.ownsRow.frozenAt hq6 m; clear h1 h2 h3 zo zr hb6 hq6 HS6 hf6)
          all_goals go_wp2
          all_goals go_meet
          all_goals exact ⟨_, _, HS7⟩
        case rest =>
          obtain ⟨z0, z1, HS8⟩ := hcut
          have hci : (c : Int) < 2 := by omega
          go_wp2
          go_roundw
          case rel => exact ⟨i + 1, j, 2 * m + c, _, _, _, _, by have := Hq.out; omega, by go_num, by go_num, by omega, by show _ = _; have := Hl.out; simp; omega, Hr2, HS8⟩
          case measure => simp [intOf]; omega
end Go.Proofs.Ytpddocehjljofaa
