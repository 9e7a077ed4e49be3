/- Walks of layer 23 (sha): the sum of a text. -/
import Derived.Test.YtmcenocmilhekaaDoorSh3
import Derived.Test.YtmcenocmilhekaaDoorSh4
namespace Go.Proofs.YtmcenocmilhekaaDoor
set_option linter.unusedVariables false
open Go.RowKit Go.My Go.Sha

theorem blks_ok (p : Nat → Nat) (j : Nat) : H8.Ok (blks p j) := by
  cases j with
  | zero => exact show H8.Ok Sha.first from ⟨by decide, by decide, by decide, by decide, by decide, by decide, by decide, by decide⟩
  | succ j => exact H8.Ok.plus _ _

theorem run_loadVar_cells {P : Program} (w : World) (g : Nat) (ty : TypeId) (cs : List Value) (d : TypeDesc) (hg : ∀ j v, cs[j]? = some v → w.cell? ⟨g, j, none⟩ = some v)
    (hu : P.underlying ty = some d) (hd : (match d with | .struct _ | .array _ _ => true | _ => false) = true) (hi : (P.info? ty).map (·.size) = some cs.length) :
    (loadVar ty ⟨g, 0, none⟩).run P w = .ok (.agg cs.toArray) w := by
  have hl : (loadCells ⟨g, 0, none⟩ cs.length).run P w = .ok cs.toArray w :=
    run_loadCells_list (P := P) w ⟨g, 0, none⟩ cs (fun j v hv => by
      rw [addr_add0]
      exact hg j v hv)
  cases hq : P.info? ty with
  | none => simp [hq] at hi
  | some i =>
    have hs : i.size = cs.length := by simpa [hq] using hi
    have hagg : (isAgg ty).run P w = .ok true w := by
      unfold isAgg
      rw [Sem.run_bind, run_underlying hu w]
      cases d <;> simp_all
    simp [loadVar, Sem.run_bind, hagg, sizeOf, typeInfo, hq, hs, hl]
def firstV : List Value := [.int .u32 1779033703, .int .u32 3144134277, .int .u32 1013904242, .int .u32 2773480762, .int .u32 1359893119, .int .u32 2600822924, .int .u32 528734635, .int .u32 1541459225]
theorem KTab.first {w : World} (h : KTab w) (j : Nat) (v : Value) (hj : firstV[j]? = some v) : w.cell? ⟨0, j, none⟩ = some v := by
  have hl : j < 8 := (List.getElem?_eq_some_iff.1 hj).1
  rw [h.h j hl, ← hj]
  match j, hl with
  | 0, _ => rfl
  | 1, _ => rfl
  | 2, _ => rfl
  | 3, _ => rfl
  | 4, _ => rfl
  | 5, _ => rfl
  | 6, _ => rfl
  | 7, _ => rfl

/-- A block as a range. -/
theorem range_of {w : World} {b n : Nat} {cs : Array Value} {t : TypeId} (h : w.heap[b]? = some (.cells cs t (0, 0))) (hn : cs.size = n) : w.rangeAt b 0 cs.toList ∧ w.there b 0 n := by
  subst hn
  refine ⟨?_, fun j hj => ⟨by rw [Nat.zero_add, cell_of h j]; simp [hj], free_of h _⟩⟩
  have h2 := World.rangeAt_of_block h 0 cs.size
  rwa [show cs.extract 0 (0 + cs.size) = cs by rw [Nat.zero_add]; exact Array.extract_size] at h2
theorem isE (T : ByteArray) : T.toList.isEmpty = decide (T.size = 0) := by
  rw [ByteArray.toList_eq]
  have e : T.size = T.data.toList.length := by simp
  rw [e]
  cases T.data.toList <;> simp

/-- What is left of a lengthened text behind j chunks. -/
structure Left (L : List UInt8) (N j : Nat) (T : ByteArray) : Prop where
  le : j ≤ N
  size : T.size = 64 * (N - j)
  is : ∀ i (h : i < T.size), (T[i]).toNat = byteL L (64 * j + i)
theorem Left.start (L : List UInt8) (N : Nat) (h : L.length = 64 * N) : Left L N 0 ⟨L.toArray⟩ := by
  have hs : (⟨L.toArray⟩ : ByteArray).size = L.length := rfl
  refine ⟨Nat.zero_le _, by rw [hs, h]; rfl, fun i hi => ?_⟩
  have hi2 : i < L.length := hi
  simp only [byteL, Nat.mul_zero, Nat.zero_add, List.getD, List.getElem?_eq_getElem hi2, Option.getD_some]
  rfl
theorem Left.head {L : List UInt8} {N j : Nat} {T : ByteArray} (h : Left L N j T) (hj : j < N) : (T.extract 0 64).size = 64 ∧ ∀ i (hi : i < (T.extract 0 64).size), ((T.extract 0 64)[i]).toNat = byteL L (64 * j + i) := by
  have hs := h.size
  have h1 : (T.extract 0 64).size = 64 := by rw [ByteArray.size_extract]; omega
  refine ⟨h1, fun i hi => ?_⟩
  rw [← h.is i (by omega)]
  simp [ByteArray.getElem_extract]
theorem Left.tail {L : List UInt8} {N j : Nat} {T : ByteArray} (h : Left L N j T) (hj : j < N) : Left L N (j + 1) (T.extract 64 T.size) := by
  have hs := h.size
  refine ⟨hj, by rw [ByteArray.size_extract]; omega, fun i hi => ?_⟩
  rw [ByteArray.size_extract] at hi
  have e := h.is (64 + i) (by omega)
  rw [show 64 * (j + 1) + i = 64 * j + (64 + i) by omega, ← e]
  simp [ByteArray.getElem_extract]

set_option maxHeartbeats 4000000 in
set_option maxRecDepth 100000 in
theorem sum_is (s : ByteArray) (hs : s.size ≤ 1000000) (w : World) (hT : KTab w) :
    Calls Tryd.prog 8 #[.string s] w fun e w' => e = .returned (.string (sumS s)) ∧ Fr (fun _ => False) w w' := by
  obtain ⟨l, hl⟩ : ∃ l, s.data.toList = l := ⟨_, rfl⟩
  obtain ⟨N, hN⟩ : ∃ N, chunks l.length = N := ⟨_, rfl⟩
  obtain ⟨L, hL⟩ : ∃ L, padL l = L := ⟨_, rfl⟩
  have hLN : L.length = 64 * N := by rw [← hL, padL_length, hN]
  have hsum : sumS s = ⟨(Sha.bytes (blks (byteL L) N)).toArray⟩ := by unfold sumS; rw [hl]; unfold sumL; rw [hL, hN]
  have hlen : ∀ W, Calls Tryd.prog 17 #[.string s] W fun e w' => e = .returned (.string ⟨L.toArray⟩) ∧ Fr (fun _ => False) W w' := fun W => by
    rw [← hL, ← hl]; exact lengthen_is s hs W
  rw [hsum]
  have Hlen := Lib.hid hlen
  have HT := Lib.hid hT
  have r0 : (loadVar 41 ⟨0, 0, none⟩).run Tryd.prog w = .ok (.agg #[.int .u32 1779033703, .int .u32 3144134277, .int .u32 1013904242, .int .u32 2773480762, .int .u32 1359893119, .int .u32 2600822924, .int .u32 528734635, .int .u32 1541459225]) w :=
    run_loadVar_cells w 0 _ firstV _ hT.first Tryd.underlying41 rfl (by kernel_rfl)
  have R0 := Lib.hid r0
  have H0 : Hid (Left L N 0 ⟨L.toArray⟩) := Left.start L N hLN
  have hN0 : L.length ≤ 2000000 := by
    rw [← hL, padL_length]
    have : l.length = s.size := by rw [← hl]; simp
    unfold chunks
    omega
  have HN0 := Lib.hid hN0
  clear hlen hT r0 hsum hL hN hl hs hLN hN0
  go_enter Tryd.func8, Tryd.ntmps8
  go_upto_block 0 with (first
    | refine wpList_load_arr rfl 41 _ rfl rfl R0.out ?_
    | (go_at_call 17; refine (Hlen.out _).mono ?_; rintro e w1 ⟨rfl, h1⟩; have HF1 := Lib.hid h1; clear h1))
  have hst : ∃ b, w.heap.size = b ∧ Fr (fun _ => False) w w1 ∧ w1.heap[b]? = some (.cells (u32s (blks (byteL L) 0).list) 41 (0, 0)) :=
    ⟨_, rfl, ((Fr.refl _ w).alloc _).trans HF1.out (fun _ h => h.elim), HF1.out.keep (heap_alloc_new w _) (fun h => h)⟩
  obtain ⟨b, hb, hF, hB⟩ := hst
  rw [hb]
  have HB := Lib.hid hB
  have HF := Lib.hid hF
  have HL : Hid (w.heap.size ≤ b) := by show w.heap.size ≤ b; omega
  clear HF1 hb hF hB R0
  go_cut [0] (fun _ wx => Hid (Fr (fun _ => False) w wx) ∧ Hid (wx.heap[b]? = some (.cells (u32s (blks (byteL L) N).list) 41 (0, 0))))
  case first =>
    go_wp2
    go_loopw [0] (fun v0 wr => ∃ (j : Nat) (T : ByteArray), v0 = .string T ∧ Hid (Left L N j T) ∧ Hid (Fr (fun _ => False) w wr) ∧ Hid (wr.heap[b]? = some (.cells (u32s (blks (byteL L) j).list) 41 (0, 0)))) (fun v0 _ => match v0 with | .string T => T.size | _ => 0)
    case atStart => exact ⟨0, _, rfl, H0, HF, HB⟩
    case round =>
      obtain ⟨j, T, rfl, hT, KF, KB⟩ := hrel
      clear HF HB H0
      by_cases hlt : j < N
      · have hsz := hT.out.size
        obtain ⟨H, hH⟩ : ∃ H, T.extract 0 64 = H := ⟨_, rfl⟩
        obtain ⟨h1, h2⟩ := hT.out.head hlt
        rw [hH] at h1 h2
        have Hsz : Hid (T.size = 64 * (N - j)) := hsz
        have Hlt := Lib.hid hlt
        have h64 : 64 ≤ T.size := by omega
        have hE : T.toList.isEmpty = false := by rw [isE]; exact decide_eq_false (by omega)
        have hmix : ∀ W, KTab W → Calls Tryd.prog 18 #[.agg (u32s (blks (byteL L) j).list), .string H] W fun e w' => e = .returned (.agg (u32s (blks (byteL L) (j + 1)).list)) ∧ Fr (fun _ => False) W w' := fun W hW =>
          mix_is _ (blks_ok _ _) H (fun i => byteL L (64 * j + i)) h1 h2 (fun i => (L.getD (64 * j + i) 0).toNat_lt) W hW
        have hK := HT.out.keep KF.out
        have HK := Lib.hid hK
        have hallA : ∀ v ∈ (u32s (blks (byteL L) (j + 1)).list).toList, v.oneCell' = true := fun v hv => by
          simp only [u32s, List.mem_map] at hv
          obtain ⟨_, _, rfl⟩ := hv
          rfl
        obtain ⟨D, hD⟩ : ∃ D, u32s (blks (byteL L) (j + 1)).list = D := ⟨_, rfl⟩
        have hDs : D.size = 8 := by rw [← hD]; rfl
        rw [hD] at hallA hmix
        obtain ⟨R, hR⟩ : ∃ R, blks (byteL L) j = R := ⟨_, rfl⟩
        have hb5 := KB.out
        rw [hR] at hmix hb5
        obtain ⟨a, bb, c, d, e, ff, g, hh⟩ := R
        have hmix : ∀ W, KTab W → Calls Tryd.prog 18 #[.agg #[.int .u32 (a : Int), .int .u32 (bb : Int), .int .u32 (c : Int), .int .u32 (d : Int), .int .u32 (e : Int), .int .u32 (ff : Int), .int .u32 (g : Int), .int .u32 (hh : Int)], .string H] W fun e w' => e = .returned (.agg D) ∧ Fr (fun _ => False) W w' := hmix
        have c0 : wr.cell? ⟨b, 0, none⟩ = some (.int .u32 (a : Int)) := (cell_of hb5 0).trans rfl
        have c1 : wr.cell? ⟨b, 1, none⟩ = some (.int .u32 (bb : Int)) := (cell_of hb5 1).trans rfl
        have c2 : wr.cell? ⟨b, 2, none⟩ = some (.int .u32 (c : Int)) := (cell_of hb5 2).trans rfl
        have c3 : wr.cell? ⟨b, 3, none⟩ = some (.int .u32 (d : Int)) := (cell_of hb5 3).trans rfl
        have c4 : wr.cell? ⟨b, 4, none⟩ = some (.int .u32 (e : Int)) := (cell_of hb5 4).trans rfl
        have c5 : wr.cell? ⟨b, 5, none⟩ = some (.int .u32 (ff : Int)) := (cell_of hb5 5).trans rfl
        have c6 : wr.cell? ⟨b, 6, none⟩ = some (.int .u32 (g : Int)) := (cell_of hb5 6).trans rfl
        have c7 : wr.cell? ⟨b, 7, none⟩ = some (.int .u32 (hh : Int)) := (cell_of hb5 7).trans rfl
        have Hmix := Lib.hid hmix
        have HD := Lib.hid hD
        have HDs := Lib.hid hDs
        have HallA := Lib.hid hallA
        have Hb5 := Lib.hid hb5
        have hTl := Lib.hid (hT.out.tail hlt)
        have h640 : (64 : Int) ≤ T.size := by omega
        clear hsz hlt h1 h2 hK hmix hD hDs hallA hb5 hR
        go_upto_region 5 with fail
        go_still_tail 3, (by kernel_rfl)
        go_wp2_with (first
          | (go_at_call 18; refine (Hmix.out wr.drew ⟨HK.out.h, HK.out.k⟩).mono ?_; rintro e w2 ⟨rfl, h⟩; have HF2 := Lib.hid h; have HB2 := Lib.hid (h.keep Hb5.out (fun x => x)); clear h)
          | refine wpList_store_arr rfl 41 _ _ rfl rfl rfl (run_storeVar_row w2 b 41 41 _ D HB2.out (by rw [HDs.out]; kernel_rfl) HDs.out.symm (by rw [Array.all_eq_true_iff_forall_mem]; intro v hv; exact HallA.out v (by simpa using hv))) ?_)
        go_roundw
        case rel => exact ⟨j + 1, _, rfl, hTl, fr_setRow ((KF.out.drew).trans HF2.out (fun _ h => h.elim)) b D (.inr HL.out), by rw [HD.out]; exact block_setRow HB2.out⟩
        case measure =>
          show (T.extract 64 T.size).size < T.size
          rw [ByteArray.size_extract]
          omega
      · have hj : j = N := by have := hT.out.le; omega
        subst hj
        have hE : T.toList.isEmpty = true := by rw [isE]; exact decide_eq_true (by have := hT.out.size; omega)
        clear hlt
        go_wp2
        go_meet
        exact ⟨KF, KB⟩
  case rest =>
    obtain ⟨KF, KB⟩ := hcut
    clear HF HB H0 Hlen HT
    obtain ⟨R, hR⟩ : ∃ R, blks (byteL L) N = R := ⟨_, rfl⟩
    obtain ⟨l8, hl8⟩ : ∃ l8, R.list = l8 := ⟨_, rfl⟩
    have hl : l8.length = 8 := by rw [← hl8]; rfl
    have hRo : ∀ i, l8.getD i 0 < 4294967296 := by
      rw [← hl8, ← hR]
      have h := blks_ok (byteL L) N
      refine getD_lt ?_
      intro x hx
      simp only [H8.list, List.mem_cons, List.not_mem_nil, or_false] at hx
      rcases hx with rfl | rfl | rfl | rfl | rfl | rfl | rfl | rfl
      · exact h.a
      · exact h.b
      · exact h.c
      · exact h.d
      · exact h.e
      · exact h.f
      · exact h.g
      · exact h.h
    have hkb := KB.out
    rw [hR, hl8] at hkb
    have hbytes : Sha.bytes (blks (byteL L) N) = (l8.take 8).flatMap four := by
      rw [hR, List.take_of_length_le (by rw [hl]; exact Nat.le_refl _)]; unfold Sha.bytes; rw [hl8]
    have r1 : (loadVar 41 ⟨b, 0, none⟩).run Tryd.prog wc = .ok (.agg (u32s l8)) wc :=
      run_loadVar_row _ _ _ _ _ _ _ hkb Tryd.underlying41 rfl (by rw [u32s_size, hl]; kernel_rfl)
    have R1 := Lib.hid r1
    have HBy := Lib.hid hbytes
    have Hl := Lib.hid hl
    have HRo := Lib.hid hRo
    clear KB hR hl8 hl hRo hkb hbytes r1
    go_upto_block 1 with (refine wpList_load_arr rfl 41 _ rfl rfl R1.out ?_)
    clear R1
    go_loopw [4, 19] (fun v4 v19 wr => ∃ i : Nat, i ≤ 8 ∧ v19 = .int .i64 (i : Int) ∧ Hid (Fr (fun _ => False) w wr) ∧ Hid (wr.ownsRow w.heap.size 5 1 v4 (4 * i) (bytesV ((l8.take i).flatMap four)))) (fun _ v19 _ => 8 - (intOf v19).toNat)
    case atStart => exact ⟨0, by omega, rfl, KF, ⟨rfl, .inl ⟨rfl, rfl⟩⟩⟩
    case round =>
      obtain ⟨i, hi, rfl, JF, JB⟩ := hrel
      clear KF
      by_cases hlt : i < 8
      · obtain ⟨x, hx⟩ : ∃ x, l8.getD i 0 = x := ⟨_, rfl⟩
        have hix := u32s_index l8 41 40 8 i Tryd.underlying41 (by kernel_rfl) Tryd.underlying40 hlt Hl.out
        rw [hx] at hix
        have hxl : x < 4294967296 := by rw [← hx]; exact HRo.out i
        have hnext : bytesV ((l8.take (i + 1)).flatMap four) = bytesV ((l8.take i).flatMap four) ++ [.int .u8 ((x : Int) / 16777216), .int .u8 ((x : Int) / 65536 % 256), .int .u8 ((x : Int) / 256 % 256), .int .u8 ((x : Int) % 256)] := by
          have e : l8.take (i + 1) = l8.take i ++ [l8.getD i 0] := by
            rw [List.take_add_one]
            have := Hl.out
            simp [List.getD, show i < l8.length by omega]
          rw [e, List.flatMap_append, bytesV_append, hx]
          have e2 : (x : Int) / 16777216 = (x : Int) / 16777216 % 256 := by omega
          rw [e2]
          simp [bytesV, four]
        obtain ⟨ad, cap, hv⟩ := own_any JB.out
        subst hv
        have Hnext := Lib.hid hnext
        have hlI : (i : Int) < 8 := by omega
        have hi0 : (0 : Int) ≤ (i : Int) := by omega
        clear hnext hx
        obtain ⟨i0, hi0', hz0, hz1, hz2⟩ := info_parts infoB
        have Hi := Lib.hid hi0'
        have Hz0 := Lib.hid hz0
        have Hz1 := Lib.hid hz1
        have Hz2 := Lib.hid hz2
        clear hi0' hz0 hz1 hz2
        go_wp2_with (at_builtin; refine wpList_append_my _ rfl _ _ 33 rfl w.heap.size 5 i0 (.int .u8 0) 1 1 Tryd.underlying33 Hi.out Hz0.out Hz1.out Hz2.out rfl (by decide) (.slice ad (4 * i) cap) (4 * i) _ (by rfl) (JB.out.alloc _) ⟨wr.heap.size, 0, none⟩ 4 4 [.int .u8 ((x : Int) / 16777216), .int .u8 ((x : Int) / 65536 % 256), .int .u8 ((x : Int) / 256 % 256), .int .u8 ((x : Int) % 256)] (by rfl) (by rfl) (World.news_of_block (cs := #[.int .u8 ((x : Int) / 16777216), .int .u8 ((x : Int) / 65536 % 256), .int .u8 ((x : Int) / 256 % 256), .int .u8 ((x : Int) % 256)]) (t := 5) (fr := (0, 0)) (heap_alloc_new wr _)) (by simp [Value.oneCell']) (by omega) (by unfold maxLen; omega) (by omega) (by have := JF.out.size; simp; omega) (wr.heap.size + 1) (by simp) ?_; intro g cap2 w2 hown hgrow hat hlt2 hsame; have IB := Lib.hid hown; have IF : Hid (Fr (fun _ => False) w w2) := Lib.hid ((JF.out.alloc _).grown hgrow (fun k hk => .inr (own_base JB.out hk))); clear hown hgrow hat hlt2 hsame)
        go_roundw
        case rel => exact ⟨i + 1, by omega, by go_num, IF, by rw [Hnext.out, show 4 * (i + 1) = 4 * i + 4 by omega]; exact IB⟩
        case measure => simp [intOf]; omega
      · obtain rfl : i = 8 := by omega
        have htx := (Br.own JB.out (by rw [← HBy.out, bytes_length]; decide)).text
        rw [← HBy.out] at htx
        have Htx := Lib.hid htx
        clear htx hlt hi
        go_wp2_with (refine wpList_cv 33 9 _ rfl rfl _ _ rfl Htx.out ?_)
        go_ret
        exact ⟨rfl, JF.out⟩
end Go.Proofs.YtmcenocmilhekaaDoor
