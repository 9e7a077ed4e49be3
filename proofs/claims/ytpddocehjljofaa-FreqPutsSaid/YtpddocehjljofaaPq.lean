/- The document's tables (cassoneref05): the part of a sign. -/
import Derived.Test.YtpddocehjljofaaQb
import Derived.Test.YtpddocehjljofaaSe
import Derived.Test.YtpddocehjljofaaArr
import Derived.Deep.CutBlock
namespace Go.Fq
set_option linter.unusedVariables false
/-- What of the sign has come up so far: what lies ahead of it, and its count. -/
def T.seen (t : T) (x : UInt8) (n : UInt8 → Bool) (i : Nat) : Nat × Nat := if t.s.idxOf x < i ∧ n x = false then ((t.upto n (t.s.idxOf x)).1, t.c.getD (t.s.idxOf x) 0) else (0, 0)
theorem T.seen_zero (t : T) (x : UInt8) (n : UInt8 → Bool) : t.seen x n 0 = (0, 0) := by unfold T.seen; rw [if_neg (by omega)]
theorem T.idx_of_get {t : T} (h : t.s.Nodup) {i : Nat} (hi : i < t.s.length) : t.s.idxOf (t.s.getD i 0) = i := by
  rw [List.getD_eq_getElem?_getD, List.getElem?_eq_getElem hi]
  exact h.idxOf_getElem i hi
theorem T.seen_skip {t : T} (h : t.s.Nodup) (x : UInt8) (n : UInt8 → Bool) {i : Nat} (hi : i < t.s.length) (hn : n (t.s.getD i 0) = true) : t.seen x n (i + 1) = t.seen x n i := by
  unfold T.seen
  by_cases e : t.s.idxOf x = i
  · have : t.s.getD i 0 = x := by rw [← e]; exact T.getD_idx (by omega)
    rw [this] at hn
    rw [if_neg (by rw [hn]; simp), if_neg (by rw [hn]; simp)]
  · have : (t.s.idxOf x < i + 1 ∧ n x = false) ↔ (t.s.idxOf x < i ∧ n x = false) := by constructor <;> (rintro ⟨a, b⟩; exact ⟨by omega, b⟩)
    simp only [this]
theorem T.seen_hit {t : T} (h : t.s.Nodup) (x : UInt8) (n : UInt8 → Bool) {i : Nat} (hi : i < t.s.length) (hn : n (t.s.getD i 0) = false) (hx : t.s.getD i 0 = x) : t.seen x n (i + 1) = ((t.upto n i).1, t.c.getD i 0) := by
  unfold T.seen
  have : t.s.idxOf x = i := by rw [← hx]; exact T.idx_of_get h hi
  rw [this, if_pos ⟨by omega, by rw [← hx]; exact hn⟩]
theorem T.seen_pass {t : T} (h : t.s.Nodup) (x : UInt8) (n : UInt8 → Bool) {i : Nat} (hi : i < t.s.length) (hx : t.s.getD i 0 ≠ x) : t.seen x n (i + 1) = t.seen x n i := by
  unfold T.seen
  have e : t.s.idxOf x ≠ i := fun e => hx (by rw [← e]; exact T.getD_idx (by omega))
  have : (t.s.idxOf x < i + 1 ∧ n x = false) ↔ (t.s.idxOf x < i ∧ n x = false) := by constructor <;> (rintro ⟨a, b⟩; exact ⟨by omega, b⟩)
  simp only [this]
theorem T.upto_skip (t : T) (n : UInt8 → Bool) (i : Nat) (hn : n (t.s.getD i 0) = true) : t.upto n (i + 1) = t.upto n i := by
  show (if n (t.s.getD i 0) = true then _ else _) = _
  rw [if_pos hn]
theorem T.upto_more (t : T) (n : UInt8 → Bool) (i : Nat) (hn : n (t.s.getD i 0) = false) : t.upto n (i + 1) = ((t.upto n i).1 + t.c.getD i 0, (t.upto n i).2 + 1) := by
  show (if n (t.s.getD i 0) = true then _ else _) = _
  rw [if_neg (by rw [hn]; simp)]
theorem T.seen_le {t : T} (h : t.Ok) (x : UInt8) (n : UInt8 → Bool) (i : Nat) (hi : i ≤ t.s.length) : (t.seen x n i).1 ≤ 30720 ∧ (t.seen x n i).2 ≤ 120 := by
  unfold T.seen
  split
  · next hc =>
    have h1 := T.upto_le h n (t.s.idxOf x) (by omega)
    have h2 := h.size
    have h3 := h.pos (t.s.idxOf x) (by rw [h.len]; omega)
    refine ⟨?_, h3.2⟩
    show (t.upto n (t.s.idxOf x)).1 ≤ 30720
    omega
  · exact ⟨Nat.zero_le _, Nat.zero_le _⟩
theorem T.seen_in {t : T} (h : t.Ok) (x : UInt8) (n : UInt8 → Bool) (hin : t.isIn x n = true) : t.seen x n t.s.length = ((t.upto n (t.s.idxOf x)).1, t.c.getD (t.s.idxOf x) 0) ∧ 1 ≤ t.c.getD (t.s.idxOf x) 0 := by
  unfold T.isIn at hin
  simp only [Bool.and_eq_true, decide_eq_true_eq, Bool.not_eq_true'] at hin
  exact ⟨by unfold T.seen; rw [if_pos hin], (h.pos _ (by rw [h.len]; exact hin.1)).1⟩
theorem T.seen_out {t : T} (x : UInt8) (n : UInt8 → Bool) (hin : t.isIn x n = false) : t.seen x n t.s.length = (0, 0) := by
  unfold T.seen
  rw [if_neg]
  intro hc
  unfold T.isIn at hin
  simp [hc.1, hc.2] at hin
/-- The three numbers of what is put. -/
def T.nums (t : T) (x : UInt8) (n : UInt8 → Bool) : Nat × Nat × Nat :=
  if t.isIn x n then ((t.upto n (t.s.idxOf x)).1, t.c.getD (t.s.idxOf x) 0, t.all_ n + t.rest n) else (t.all_ n, t.rest n, t.all_ n + t.rest n)
theorem T.putOp_nums (t : T) (x : UInt8) (n : UInt8 → Bool) : t.putOp x n = .part (t.nums x n).1 (t.nums x n).2.1 (t.nums x n).2.2 := by
  unfold T.putOp T.nums
  split <;> rfl
end Go.Fq
namespace Go.Proofs.Ytpddocehjljofaa
set_option linter.unusedVariables false
open Go.RowKit Go.My

theorem boolArr_get (f : Nat → Bool) (y : Nat) (h : y < 256) : (boolArr f)[y]? = some (.bool (f y)) := by
  unfold boolArr
  rw [List.getElem?_toArray]
  simp [h]

set_option maxHeartbeats 4000000 in
set_option maxRecDepth 100000 in
theorem ref_tab_part (r : Value) (t : Fq.T) (x : UInt8) (f : Nat → Bool) (w : World) (h : RTab w r t) (hOk : t.Ok) :
    Calls Try.prog 79 #[r, .int .u8 (x.toNat : Int), .agg (boolArr f)] w fun e w' => e = .returned (.tuple #[.int .u64 ((t.nums x (bySign f)).1 : Nat), .int .u64 ((t.nums x (bySign f)).2.1 : Nat), .int .u64 ((t.nums x (bySign f)).2.2 : Nat), .bool (t.isIn x (bySign f))]) ∧ Fr (fun _ => False) w w' := by
  obtain ⟨A1, k1, A2, k2, rfl, hos, hoc⟩ := h.ex
  obtain ⟨n, hn⟩ : ∃ n, bySign f = n := ⟨_, rfl⟩
  have hfn : ∀ b : UInt8, f b.toNat = n b := fun b => by rw [← hn]; rfl
  obtain ⟨BA, hBA⟩ : ∃ BA, boolArr f = BA := ⟨_, rfl⟩
  have hget : ∀ b : UInt8, BA[b.toNat]? = some (.bool (n b)) := fun b => by rw [← hBA, boolArr_get f _ b.toNat_lt, hfn]
  obtain ⟨L, hL⟩ : ∃ L, t.s.length = L := ⟨_, rfl⟩
  have hcl := hOk.len
  rw [hL] at hcl hos
  rw [hcl] at hoc ⊢
  have hL2 : L ≤ 256 := by rw [← hL]; exact hOk.size
  have htl := Fq.T.tot_le hOk n
  have hall : t.all_ n = (t.upto n L).1 := by rw [← hL]; rfl
  have hrest : t.rest n = max (t.upto n L).2 1 := by rw [← hL]; rfl
  have hul : ∀ i, i ≤ L → (t.upto n i).1 ≤ 30720 ∧ (t.upto n i).2 ≤ 256 := fun i hi => by
    have := Fq.T.upto_le hOk n i (by omega)
    omega
  have hsl : ∀ i, i ≤ L → (t.seen x n i).1 ≤ 30720 ∧ (t.seen x n i).2 ≤ 120 := fun i hi => Fq.T.seen_le hOk x n i (by omega)
  obtain ⟨RV, hRV⟩ : ∃ v, Value.tuple #[.int .u64 ((t.nums x n).1 : Nat), .int .u64 ((t.nums x n).2.1 : Nat), .int .u64 ((t.nums x n).2.2 : Nat), .bool (t.isIn x n)] = v := ⟨_, rfl⟩
  rw [hBA, hn, hRV, hL]
  obtain ⟨z, hz⟩ : ∃ z, x.toNat = z := ⟨_, rfl⟩
  have hz2 : z < 256 := by rw [← hz]; exact x.toNat_lt
  have hzi : (z : Int) < 256 := by omega
  rw [hz]
  have Hz := Lib.hid hz
  have Hget := Lib.hid hget
  have HL := Lib.hid hL
  have Hcl := Lib.hid hcl
  have HOk := Lib.hid hOk
  have Hall := Lib.hid hall
  have Hrest := Lib.hid hrest
  have Hul := Lib.hid hul
  have Hsl := Lib.hid hsl
  have HRV := Lib.hid hRV
  have hL2i : (L : Int) ≤ 256 := by omega
  have hb1 := block_alloc (x := .cells BA 100) (heap_alloc_new w (.cells #[.slice A1 L k1, .slice A2 L k2] 89))
  have hb2 := two_new w (.cells #[.slice A1 L k1, .slice A2 L k2] 89) (.cells BA 100)
  have hF : Fr (fun _ => False) w ((w.alloc (.cells #[.slice A1 L k1, .slice A2 L k2] 89)).alloc (.cells BA 100)) := ((Fr.refl _ w).alloc _).alloc _
  have hos2 := own_keep (S := fun _ => False) hos hF (fun _ _ x => x)
  have hoc2 := own_keep (S := fun _ => False) hoc hF (fun _ _ x => x)
  obtain ⟨W, hW⟩ : ∃ W, (w.alloc (.cells #[.slice A1 L k1, .slice A2 L k2] 89)).alloc (.cells BA 100) = W := ⟨_, rfl⟩
  obtain ⟨b1, hb1e⟩ : ∃ b, w.heap.size = b := ⟨_, rfl⟩
  obtain ⟨b2, hb2e⟩ : ∃ b, b1 + 1 = b := ⟨_, rfl⟩
  rw [hW] at hb1 hb2 hF hos2 hoc2
  rw [hb1e] at hb1 hb2
  rw [hb2e] at hb2
  have HB1 := Lib.hid hb1
  have HB2 := Lib.hid hb2
  have HF := Lib.hid hF
  have HS := Lib.hid hos2
  have HC := Lib.hid hoc2
  clear h hz hget hL hcl hOk hall hrest hul hsl hRV hb1 hb2 hF hos2 hoc2 hos hoc hfn hBA hn htl hz2
  go_enter Try.func79, Try.ntmps79
  go_upto_region 1 with fail
  clear hW hb1e hb2e
  go_upto_block 0 with fail
  go_cut [10, 11, 12, 13, 14] (fun v10 v11 v12 v13 _ wx => v10 = .int .i64 ((t.upto n L).1 : Nat) ∧ v11 = .int .i64 ((t.upto n L).2 : Nat) ∧ (∃ sa sc : Nat, v12 = .int .i64 (sa : Int) ∧ v13 = .int .i64 (sc : Int) ∧ Hid (t.seen x n L = (sa, sc))) ∧ Hid (Fr (fun _ => False) W wx))
  case first =>
    go_wp2
    go_loopw [10, 11, 12, 13, 14] (fun v10 v11 v12 v13 v14 wr => ∃ i : Nat, i ≤ L ∧ v14 = .int .i64 (i : Int) ∧ v10 = .int .i64 ((t.upto n i).1 : Nat) ∧ v11 = .int .i64 ((t.upto n i).2 : Nat) ∧ v12 = .int .i64 ((t.seen x n i).1 : Nat) ∧ v13 = .int .i64 ((t.seen x n i).2 : Nat) ∧ Hid (Fr (fun _ => False) W wr)) (fun _ _ _ _ v14 _ => L - (intOf v14).toNat)
    case atStart => exact ⟨0, Nat.zero_le _, rfl, rfl, rfl, by rw [Fq.T.seen_zero]; rfl, by rw [Fq.T.seen_zero]; rfl, Fr.refl _ _⟩
    case round =>
      obtain ⟨i, hi, rfl, rfl, rfl, rfl, rfl, KF⟩ := hrel
      have c0 : wr.cell? ⟨b1, 0, none⟩ = some (.slice A1 L k1) := (cell_of (KF.out.keep HB1.out (fun x => x)) 0).trans rfl
      have c1 : wr.cell? ⟨b1, 1, none⟩ = some (.slice A2 L k2) := (cell_of (KF.out.keep HB1.out (fun x => x)) 1).trans rfl
      obtain ⟨U, hU⟩ : ∃ U, t.upto n i = U := ⟨_, rfl⟩
      obtain ⟨Z, hZ⟩ : ∃ Z, t.seen x n i = Z := ⟨_, rfl⟩
      have hu1 := Hul.out i hi
      have hs1 := Hsl.out i hi
      rw [hU] at hu1
      rw [hZ] at hs1
      rw [hU, hZ]
      have HU := Lib.hid hU
      have HZ := Lib.hid hZ
      clear hU hZ
      by_cases hlt : i < L
      · have hiI : (i : Int) < (L : Int) := by omega
        have hi0 : (0 : Int) ≤ (i : Int) := by omega
        have s1 := own_keep (S := fun _ => False) HS.out KF.out (fun _ _ x => x)
        have s2 := own_keep (S := fun _ => False) HC.out KF.out (fun _ _ x => x)
        obtain ⟨g1, cc1, hv1⟩ := own_slice s1 (by omega)
        obtain ⟨g2, cc2, hv2⟩ := own_slice s2 (by omega)
        injection hv1 with hv1 _ _
        injection hv2 with hv2 _ _
        subst hv1 hv2
        have x1 : wr.cell? ⟨g1, i, none⟩ = some (.int .u8 ((t.s.getD i 0).toNat : Int)) := by
          rw [World.ownsRow.cellAt s1 i (by omega)]
          exact bytesV_get (by rw [HL.out]; exact hlt)
        have x2 : wr.cell? ⟨g2, i, none⟩ = some (.int .i64 ((t.c.getD i 0 : Nat) : Int)) := by
          rw [World.ownsRow.cellAt s2 i (by omega)]
          exact intsV_get (by rw [Hcl.out]; exact hlt)
        have hcb := (HOk.out.pos i (by rw [Hcl.out]; exact hlt)).2
        have hsk := Fq.T.seen_skip HOk.out.nodup x n (i := i) (by rw [HL.out]; exact hlt)
        have hhit := Fq.T.seen_hit HOk.out.nodup x n (i := i) (by rw [HL.out]; exact hlt)
        have hps := Fq.T.seen_pass HOk.out.nodup x n (i := i) (by rw [HL.out]; exact hlt)
        have husk := Fq.T.upto_skip t n i
        have humo := Fq.T.upto_more t n i
        obtain ⟨b, hb⟩ : ∃ b, t.s.getD i 0 = b := ⟨_, rfl⟩
        obtain ⟨c, hc⟩ : ∃ c, t.c.getD i 0 = c := ⟨_, rfl⟩
        rw [hb] at x1 hsk hhit hps husk humo
        rw [hc] at x2 hcb hhit humo
        rw [HU.out] at hhit husk humo
        rw [HZ.out] at hsk hps
        have hbz : (b = x) ↔ (b.toNat = z) := by rw [← Hz.out]; exact UInt8.toNat_inj.symm
        have x3 : wr.cell? ⟨b2, b.toNat, none⟩ = some (.bool (n b)) := (cell_of (KF.out.keep HB2.out (fun x => x)) b.toNat).trans (Hget.out b)
        have hy2 := b.toNat_lt
        obtain ⟨y, hy⟩ : ∃ y, b.toNat = y := ⟨_, rfl⟩
        rw [hy] at x1 x3 hbz hy2
        have hyi : (y : Int) < 256 := by omega
        have hy0 : (0 : Int) ≤ (y : Int) := by omega
        have Hsk := Lib.hid hsk
        have Hhit := Lib.hid hhit
        have Hps := Lib.hid hps
        have Husk := Lib.hid husk
        have Humo := Lib.hid humo
        have Hbz := Lib.hid hbz
        clear s1 s2 hb hc hy hsk hhit hps husk humo hbz
        rcases hnb : n b with _ | _
        · rw [hnb] at x3
          have hua := Humo.out hnb
          have hup : U.1 + c ≤ 40000 := by omega
          have e1 : IntKind.i64.wrap ((U.1 : Int) + (c : Int)) = ((U.1 + c : Nat) : Int) := by rw [IntWalk.i64_in _ (by omega)]; omega
          have e2 : IntKind.i64.wrap ((U.2 : Int) + 1) = ((U.2 + 1 : Nat) : Int) := by rw [IntWalk.i64_in _ (by omega)]; omega
          have Hua := Lib.hid hua
          have Hnb := Lib.hid hnb
          clear hua hnb hup
          by_cases hyz : y = z
          · have hsa := Hhit.out Hnb.out (Hbz.out.2 hyz)
            have Hsa := Lib.hid hsa
            subst hyz
            clear hsa
            go_upto_region 7 with fail
            go_region
            all_goals go_wp2
            all_goals go_roundw
            all_goals first
              | exact ⟨i + 1, by omega, by go_num, by rw [Hua.out]; first | rfl | go_num, by rw [Hua.out]; first | rfl | go_num, by rw [Hsa.out], by rw [Hsa.out], KF.out.drew⟩
              | (simp [intOf]; omega)
          · have hsa := Hps.out (fun e => hyz (Hbz.out.1 e))
            have Hsa := Lib.hid hsa
            have hyzB : ((y : Int) == (z : Int)) = false := (show ∀ a b : Int, ¬ a = b → (a == b) = false from fun a b h => by simp [h]) _ _ (by omega)
            have hyzI : ¬ (y : Int) = (z : Int) := by omega
            clear hsa
            go_wp2
            go_roundw
            case rel => exact ⟨i + 1, by omega, by go_num, by rw [Hua.out]; first | rfl | go_num, by rw [Hua.out]; first | rfl | go_num, by rw [Hsa.out], by rw [Hsa.out], KF⟩
            case measure => simp [intOf]; omega
        · rw [hnb] at x3
          have hsa := Hsk.out hnb
          have hua := Husk.out hnb
          have Hsa := Lib.hid hsa
          have Hua := Lib.hid hua
          clear hsa hua hnb
          go_wp2
          go_roundw
          case rel => exact ⟨i + 1, by omega, by go_num, by rw [Hua.out], by rw [Hua.out], by rw [Hsa.out], by rw [Hsa.out], KF⟩
          case measure => simp [intOf]; omega
      · obtain rfl : i = L := by omega
        clear hlt hi
        go_wp2
        go_meet
        exact ⟨by rw [HU.out], by rw [HU.out], ⟨Z.1, Z.2, rfl, rfl, HZ.out⟩, KF⟩
  case rest =>
    obtain ⟨rfl, rfl, ⟨sa, sc, rfl, rfl, HZ⟩, KF⟩ := hcut
    have hu := Hul.out L (Nat.le_refl _)
    have hin := Fq.T.seen_in HOk.out x n
    have hout := Fq.T.seen_out x n (t := t)
    have hrv := HRV.out
    unfold Fq.T.nums at hrv
    rw [Hall.out, Hrest.out] at hrv
    rw [HL.out] at hin hout
    obtain ⟨P, hP⟩ : ∃ P, (t.upto n L).1 = P := ⟨_, rfl⟩
    obtain ⟨Q, hQ⟩ : ∃ Q, (t.upto n L).2 = Q := ⟨_, rfl⟩
    rw [hP, hQ] at hu hrv ⊢
    clear hP hQ
    obtain ⟨Q1, hQ1⟩ : ∃ Q1, max Q 1 = Q1 := ⟨_, rfl⟩
    rw [hQ1] at hrv
    have e3 : IntKind.i64.wrap ((P : Int) + (Q1 : Int)) = ((P + Q1 : Nat) : Int) := by rw [IntWalk.i64_in _ (by omega)]; omega
    have hPi : (P : Int) ≤ 30720 := by omega
    have hQi : (Q1 : Int) ≤ 256 := by omega
    have hPQ : ((P + Q1 : Nat) : Int) ≤ 40000 := by omega
    have u1 : IntKind.u64.wrap (P : Int) = (P : Int) := IntWalk.u64_in _ (by omega)
    have u3 : IntKind.u64.wrap ((P + Q1 : Nat) : Int) = ((P + Q1 : Nat) : Int) := IntWalk.u64_in _ (by omega)
    rcases hii : t.isIn x n with _ | _
    · have hz0 := hout hii
      rw [HZ.out] at hz0
      simp only [Prod.mk.injEq] at hz0
      obtain ⟨rfl, rfl⟩ := hz0
      rw [hii] at hrv
      have HRv := Lib.hid hrv
      clear hrv hin hout hii HZ
      rcases Nat.eq_zero_or_pos Q with hq | hq
      · subst hq
        obtain rfl : Q1 = 1 := by omega
        clear hQ1
        go_wp2
        refine bodyPost_ret (v := RV) ?_ rfl ⟨rfl, HF.out.trans KF.out (fun _ h => h.elim)⟩
        rw [← HRv.out]
        simp [results, Try.results79, go_sem]
      · obtain rfl : Q1 = Q := by omega
        have hq0 : ¬ ((Q1 : Int) = 0) := by omega
        have hqB : ((Q1 : Int) == 0) = false := (show ∀ a : Int, ¬ a = 0 → (a == 0) = false from fun a h => by simp [h]) _ hq0
        have u2 : IntKind.u64.wrap (Q1 : Int) = (Q1 : Int) := IntWalk.u64_in _ (by omega)
        clear hQ1
        go_wp2
        refine bodyPost_ret (v := RV) ?_ rfl ⟨rfl, HF.out.trans KF.out (fun _ h => h.elim)⟩
        rw [← HRv.out]
        simp [results, Try.results79, go_sem]
    · obtain ⟨ha, hb⟩ := hin hii
      rw [HZ.out] at ha
      simp only [Prod.mk.injEq] at ha
      obtain ⟨h1, h2⟩ := ha
      rw [hii, if_pos rfl, ← h1, ← h2] at hrv
      rw [← h2] at hb
      have HRv := Lib.hid hrv
      have hsb := Hsl.out L (Nat.le_refl _)
      rw [HZ.out] at hsb
      dsimp only at hsb
      have u4 : IntKind.u64.wrap (sa : Int) = (sa : Int) := IntWalk.u64_in _ (by omega)
      have u5 : IntKind.u64.wrap (sc : Int) = (sc : Int) := IntWalk.u64_in _ (by omega)
      have hs0 : (0 : Int) < (sc : Int) := by omega
      have hs0n : 0 < sc := hb
      have hs0d : decide (0 < sc) = true := decide_eq_true hs0n
      clear hrv hin hout hii HZ h1 h2 hb hsb
      rcases Nat.eq_zero_or_pos Q with hq | hq
      · subst hq
        obtain rfl : Q1 = 1 := by omega
        clear hQ1
        go_wp2
        refine bodyPost_ret (v := RV) ?_ rfl ⟨rfl, HF.out.trans KF.out (fun _ h => h.elim)⟩
        rw [← HRv.out]
        simp [results, Try.results79, go_sem]
      · obtain rfl : Q1 = Q := by omega
        have hq0 : ¬ ((Q1 : Int) = 0) := by omega
        have hqB : ((Q1 : Int) == 0) = false := (show ∀ a : Int, ¬ a = 0 → (a == 0) = false from fun a h => by simp [h]) _ hq0
        have u2 : IntKind.u64.wrap (Q1 : Int) = (Q1 : Int) := IntWalk.u64_in _ (by omega)
        clear hQ1
        go_wp2
        refine bodyPost_ret (v := RV) ?_ rfl ⟨rfl, HF.out.trans KF.out (fun _ h => h.elim)⟩
        rw [← HRv.out]
        simp [results, Try.results79, go_sem]
end Go.Proofs.Ytpddocehjljofaa
