/- RcBack: the walk of the law. -/
import Derived.Test.YtpddocehjljofaaRbS
import Derived.Laws.Rows
import Derived.StillTailTactics
import Derived.Deep.CutBlock
namespace Go.Proofs.Ytpddocehjljofaa
open Go.RowKit Go.My

/-- A step in its five cells. -/
structure StpAt (w : World) (b o : Nat) (x : Rc.Stp) : Prop where
  c0 : w.cell? ⟨b, o, none⟩ = some (.int .u8 (x.what : Int))
  c1 : w.cell? ⟨b, o + 1, none⟩ = some (.int .u8 (x.which : Int))
  c2 : w.cell? ⟨b, o + 2, none⟩ = some (.int .u32 (x.v : Int))
  c3 : w.cell? ⟨b, o + 3, none⟩ = some (.int .u8 (x.n : Int))
  c4 : w.cell? ⟨b, o + 4, none⟩ = some (.int .u16 (x.total : Int))
theorem StpAt.keep {w w' : World} {b o : Nat} {x : Rc.Stp} (h : StpAt w b o x) (hf : Fr (fun _ => False) w w') : StpAt w' b o x :=
  ⟨hf.cell_ h.c0 (fun h => h), hf.cell_ h.c1 (fun h => h), hf.cell_ h.c2 (fun h => h), hf.cell_ h.c3 (fun h => h), hf.cell_ h.c4 (fun h => h)⟩

/-- Four probabilities in an array. -/
def arr (ps : List Nat) : Array Value := (ps.map fun (x : Nat) => Value.int .u16 (x : Int)).toArray
theorem arr_get {ps : List Nat} (h : Rc.Ps ps) {k : Nat} (hk : k < 4) : (arr ps)[k]? = some (.int .u16 ((ps.getD k 0 : Nat) : Int)) := by
  have hl := h.len
  have : k < ps.length := by omega
  simp [arr, List.getD, List.getElem?_eq_getElem this]
theorem arr_set (ps : List Nat) (k y : Nat) : (arr ps).setIfInBounds k (.int .u16 (y : Int)) = arr (ps.set k y) := by
  apply Array.ext'
  simp [arr, List.map_set]

structure EncSt (w wr : World) (pe bp bq : Nat) (v : Value) (ops : List Rc.Op) (ps qs : List Nat) : Prop where
  enc : EncO wr pe v ops
  hp : wr.heap[bp]? = some (.cells (arr ps) 32 (0, 0))
  hq : wr.heap[bq]? = some (.cells (arr qs) 32 (0, 0))
  ne : bp ≠ bq
  fr : Fr (fun _ => False) w wr
  hi : ∀ k, encFoot pe v k → w.heap.size ≤ k
  hip : w.heap.size ≤ bp
  hiq : w.heap.size ≤ bq
theorem EncSt.alloc {w wr : World} {pe bp bq : Nat} {v : Value} {ops : List Rc.Op} {ps qs : List Nat} (h : EncSt w wr pe bp bq v ops ps qs) (o : Obj) : EncSt w (wr.alloc o) pe bp bq v ops ps qs :=
  ⟨h.enc.alloc o, block_alloc h.hp, block_alloc h.hq, h.ne, h.fr.alloc o, h.hi, h.hip, h.hiq⟩
theorem EncSt.drewN {w wr : World} {pe bp bq : Nat} {v : Value} {ops : List Rc.Op} {ps qs : List Nat} (h : EncSt w wr pe bp bq v ops ps qs) (n : Nat) : EncSt w (wr.drewN n) pe bp bq v ops ps qs :=
  ⟨h.enc.drewN n, h.hp, h.hq, h.ne, h.fr.drewN n, h.hi, h.hip, h.hiq⟩
theorem EncSt.op {w wr w' : World} {pe bp bq : Nat} {v v' : Value} {ops ops' : List Rc.Op} {ps qs : List Nat} (h : EncSt w wr pe bp bq v ops ps qs) (he : EncO w' pe v' ops') (hs : Step wr w' (encFoot pe v) (encFoot pe v')) : EncSt w w' pe bp bq v' ops' ps qs :=
  ⟨he, hs.keep h.hp (not_foot h.enc h.hp (by decide) (by decide)), hs.keep h.hq (not_foot h.enc h.hq (by decide) (by decide)), h.ne, h.fr.trans hs.fr (fun k hk => .inr (h.hi k hk)), fun k hk => (hs.foot k hk).elim (h.hi k) (fun h2 => Nat.le_trans h.fr.size h2), h.hip, h.hiq⟩
theorem EncSt.set {w wr w' : World} {pe bp bq : Nat} {v v' : Value} {ops ops' : List Rc.Op} {ps qs : List Nat} (h : EncSt w wr pe bp bq v ops ps qs) (k y : Nat) (he : EncO w' pe v' ops') (hs : Step (wr.setCell ⟨bp, k, none⟩ (.int .u16 (y : Int))) w' (encFoot pe v) (encFoot pe v')) : EncSt w w' pe bp bq v' ops' (ps.set k y) qs :=
  ⟨he, by rw [← arr_set]; exact hs.keep (block_setCell h.hp _) (not_foot h.enc h.hp (by decide) (by decide)), hs.keep (block_setCell_other h.hq (fun e => h.ne e.symm) _) (not_foot h.enc h.hq (by decide) (by decide)), h.ne,
    (h.fr.setCell ⟨bp, k, none⟩ (.int .u16 (y : Int)) (.inr h.hip)).trans hs.fr (fun k hk => .inr (h.hi k hk)), fun i hk => (hs.foot i hk).elim (h.hi i) (fun h2 => by
      have := h.fr.size
      simp [World.setCell] at h2
      omega), h.hip, h.hiq⟩

structure DecSt (w wr : World) (pd bp bq : Nat) (d : Rc.D) (ps qs : List Nat) : Prop where
  dec : DecAt wr pd d
  g : DecG d
  hp : wr.heap[bp]? = some (.cells (arr ps) 32 (0, 0))
  hq : wr.heap[bq]? = some (.cells (arr qs) 32 (0, 0))
  ne : bp ≠ bq
  fr : Fr (fun _ => False) w wr
  hpd : w.heap.size ≤ pd
  hiq : w.heap.size ≤ bq
theorem DecSt.alloc {w wr : World} {pd bp bq : Nat} {d : Rc.D} {ps qs : List Nat} (h : DecSt w wr pd bp bq d ps qs) (o : Obj) : DecSt w (wr.alloc o) pd bp bq d ps qs :=
  ⟨h.dec.keep (S := fun _ => False) ((Fr.refl _ _).alloc o) (fun h => h), h.g, block_alloc h.hp, block_alloc h.hq, h.ne, h.fr.alloc o, h.hpd, h.hiq⟩
theorem DecSt.drewN {w wr : World} {pd bp bq : Nat} {d : Rc.D} {ps qs : List Nat} (h : DecSt w wr pd bp bq d ps qs) (n : Nat) : DecSt w (wr.drewN n) pd bp bq d ps qs :=
  ⟨h.dec.drewN n, h.g, h.hp, h.hq, h.ne, h.fr.drewN n, h.hpd, h.hiq⟩
theorem DecSt.drew {w wr : World} {pd bp bq : Nat} {d : Rc.D} {ps qs : List Nat} (h : DecSt w wr pd bp bq d ps qs) : DecSt w wr.drew pd bp bq d ps qs := h.drewN 1
theorem DecSt.op {w wr w' : World} {pd bp bq : Nat} {d d' : Rc.D} {ps qs : List Nat} (h : DecSt w wr pd bp bq d ps qs) (hd : DecAt w' pd d') (hg : DecG d') (hf : Fr (one pd) wr w') : DecSt w w' pd bp bq d' ps qs :=
  ⟨hd, hg, hf.keep h.hp (fun e => ne_of_ty h.hp h.dec.blk (by decide) e), hf.keep h.hq (fun e => ne_of_ty h.hq h.dec.blk (by decide) e), h.ne, h.fr.trans hf (fun k hk => .inr (by rw [show k = pd from hk]; exact h.hpd)), h.hpd, h.hiq⟩
theorem DecSt.set {w wr w' : World} {pd bp bq : Nat} {d d' : Rc.D} {ps qs : List Nat} (h : DecSt w wr pd bp bq d ps qs) (k y : Nat) (hd : DecAt w' pd d') (hg : DecG d') (hf : Fr (one pd) (wr.setCell ⟨bq, k, none⟩ (.int .u16 (y : Int))) w') : DecSt w w' pd bp bq d' ps (qs.set k y) :=
  ⟨hd, hg, hf.keep (block_setCell_other h.hp h.ne _) (fun e => ne_of_ty h.hp h.dec.blk (by decide) e), by rw [← arr_set]; exact hf.keep (block_setCell h.hq _) (fun e => ne_of_ty h.hq h.dec.blk (by decide) e), h.ne,
    (h.fr.setCell ⟨bq, k, none⟩ (.int .u16 (y : Int)) (.inr h.hiq)).trans hf (fun k hk => .inr (by rw [show k = pd from hk]; exact h.hpd)), h.hpd, h.hiq⟩

set_option maxHeartbeats 8000000 in
set_option maxRecDepth 100000 in
theorem rcBack_walk (f : Nat → Rc.Stp) (hf : ∀ i, (f i).Ok) (A : Option Addr) (len cap : Nat) (hlen : len ≤ 9223372036854775807) (s : ByteArray) (hs : s.size ≤ 140737488351232) (w : World)
    (hat : ∀ i, i < len → ∃ b off, A = some ⟨b, off, none⟩ ∧ StpAt w b (off + i * 5) (f i)) :
    Calls Try.prog 4 #[.slice A len cap, .string s] w fun r w' => r = .returned (.bool true) ∧ Fr (fun _ => False) w w' := by
  obtain ⟨P0, hP0⟩ : ∃ P0, P0 = [1024, 1024, 1024, 1024] := ⟨_, rfl⟩
  have hPs : Rc.Ps P0 := by rw [hP0]; exact Rc.Ps.start
  have Hat := Lib.hid hat
  have Hf := Lib.hid hf
  have HP := Lib.hid hPs
  have HP0 := Lib.hid hP0
  have Hs := Lib.hid hs
  clear hat hf hPs hP0 hs
  go_enter Try.func4, Try.ntmps4
  go_upto_region 4 with (first | (go_at_call 12; refine (speaks03 _).mono ?_; rintro r w1 ⟨rfl, h1⟩; have HF1 := Lib.hid h1; clear h1) | (go_at_call 13; refine (enc_new _).mono ?_; rintro r w2 ⟨rfl, h1, h2⟩; have HE2 := Lib.hid h1; have HF2 := Lib.hid (HF1.out.trans h2 (fun _ h => .inl h)); have Hl2 := Lib.hid HF1.out.size; clear h1 h2))
  go_upto_region 5 with fail
  have hst : ∃ W pe bp bq, ((w2.alloc (.cells (arr P0) 32)).alloc (.cells (arr P0) 32)) = W ∧ w1.heap.size = pe ∧ w2.heap.size = bp ∧ w2.heap.size + 1 = bq ∧ EncSt w W pe bp bq (.slice none 0 0) [] P0 P0 := by
    refine ⟨_, _, _, _, rfl, rfl, rfl, rfl, ⟨(HE2.out.alloc _).alloc _, block_alloc (heap_alloc_new w2 _), ?_, by omega, (HF2.out.alloc _).alloc _, ?_, HF2.out.size, by have := HF2.out.size; omega⟩⟩
    · have h := heap_alloc_new (w2.alloc (.cells (arr P0) 32)) (.cells (arr P0) 32)
      simpa using h
    · rintro k (rfl | hk)
      · exact Hl2.out
      · cases hk
  obtain ⟨W, pe, bp, bq, hW, h1, h2, h3, hst⟩ := hst
  rw [show (#[.int .u16 1024, .int .u16 1024, .int .u16 1024, .int .u16 1024] : Array Value) = arr P0 by rw [HP0.out]; rfl, hW, h1, h3, h2]
  have Hst := Lib.hid hst
  clear hst hW h1 h2 h3 HE2 HF2 HF1 Hl2
  go_upto_block 0 with fail
  go_cut [8] (fun _ wr => ∃ v, Hid (EncSt w wr pe bp bq v (Rc.opsOf P0 f (min len 120)).1 (Rc.opsOf P0 f (min len 120)).2 P0))
  case first =>
    go_wp2
    go_loopw [8] (fun v8 wr => ∃ (i : Nat) (v : Value), i ≤ len ∧ i ≤ 120 ∧ v8 = .int .i64 (i : Int) ∧ Hid (EncSt w wr pe bp bq v (Rc.opsOf P0 f i).1 (Rc.opsOf P0 f i).2 P0)) (fun v8 _ => 120 - (intOf v8).toNat)
    case atStart => exact ⟨0, _, Nat.zero_le _, by omega, rfl, Hst.out⟩
    case round =>
      obtain ⟨i, v, hi, hi2, rfl, HS⟩ := hrel
      clear Hst
      by_cases hlt : i < len ∧ i < 120
      · obtain ⟨hl1, hl2⟩ := hlt
        obtain ⟨b, off, rfl, hx⟩ := Hat.out i hl1
        obtain ⟨c0, c1, c2, c3, c4⟩ := hx.keep HS.out.fr
        have hok := Hf.out i
        obtain ⟨ops, hops⟩ : ∃ ops, (Rc.opsOf P0 f i).1 = ops := ⟨_, rfl⟩
        obtain ⟨ps, hps⟩ : ∃ ps, (Rc.opsOf P0 f i).2 = ps := ⟨_, rfl⟩
        have hoo := Rc.opsOf_ok HP.out (fun i => Hf.out i) i
        rw [hops, hps] at hoo HS
        obtain ⟨ho1, ho2, ho3⟩ := hoo
        have hnx : Rc.opsOf P0 f (i + 1) = (ops ++ (Rc.stepOps ps (f i)).1, (Rc.stepOps ps (f i)).2) := by simp only [Rc.opsOf]; rw [hops, hps]
        have Hnx := Lib.hid hnx
        clear hnx hops hps ho1 hx
        generalize f i = x at *
        obtain ⟨a, wh, y, n, t⟩ := x
        have b1 := hok.what
        have b2 := hok.which
        have b3 := hok.v
        have b4 := hok.n
        have b5 := hok.total
        dsimp only at c0 c1 c2 c3 c4 b1 b2 b3 b4 b5
        have Hok := Lib.hid hok
        have Ho2 := Lib.hid ho2
        have Ho3 := Lib.hid ho3
        have b3' : (y : Int) < 4294967296 := by omega
        have hii : (i : Int) < 120 := by omega
        have hll : (i : Int) < (len : Int) := by omega
        clear hok ho2 ho3 b3
        have hxb := heap_alloc_new wr (.cells #[.int .u8 (a : Int), .int .u8 (wh : Int), .int .u32 (y : Int), .int .u8 (n : Int), .int .u16 (t : Int)] 36)
        have HSx := Lib.hid (HS.out.alloc (.cells #[.int .u8 (a : Int), .int .u8 (wh : Int), .int .u32 (y : Int), .int .u8 (n : Int), .int .u16 (t : Int)] 36))
        go_upto_region 9 with fail
        obtain ⟨X, hX⟩ : ∃ X, wr.alloc (.cells #[.int .u8 (a : Int), .int .u8 (wh : Int), .int .u32 (y : Int), .int .u8 (n : Int), .int .u16 (t : Int)] 36) = X := ⟨_, rfl⟩
        obtain ⟨xb, hb⟩ : ∃ xb, wr.heap.size = xb := ⟨_, rfl⟩
        rw [hX] at HSx hxb ⊢
        rw [hb] at hxb ⊢
        clear HS hX hb c0 c1 c2 c3 c4
        have c0 : X.cell? ⟨xb, 0, none⟩ = some (.int .u8 (a : Int)) := (cell_of hxb 0).trans rfl
        have c1 : X.cell? ⟨xb, 1, none⟩ = some (.int .u8 (wh : Int)) := (cell_of hxb 1).trans rfl
        have c2 : X.cell? ⟨xb, 2, none⟩ = some (.int .u32 (y : Int)) := (cell_of hxb 2).trans rfl
        have c3 : X.cell? ⟨xb, 3, none⟩ = some (.int .u8 (n : Int)) := (cell_of hxb 3).trans rfl
        have c4 : X.cell? ⟨xb, 4, none⟩ = some (.int .u16 (t : Int)) := (cell_of hxb 4).trans rfl
        have Hxb := Lib.hid hxb
        have hand := and1_u32 y (by omega)
        clear hxb
        by_cases hk3 : a % 5 = 3
        · have t3 : ((a : Int) % 5 == 3) = true := by simp; omega
          have hso : Rc.stepOps ps ⟨a, wh, y, n, t⟩ = (Rc.bitsOf y (n % 33), ps) := by unfold Rc.stepOps; rw [if_pos hk3]
          rw [hso] at Hnx
          have hd := direct_ops pe v ops y (n % 33) X HSx.out.enc (by have := Ho3.out; omega) (by omega) (by omega)
          rw [show ((n % 33 : Nat) : Int) = (n : Int) % 33 by simp] at hd
          have Hd := Lib.hid hd
          clear hk3 hso hd
          go_wp2_with (go_at_call 15; refine Hd.out.mono ?_; rintro r w5 ⟨rfl, v5, h1, h2⟩; have HS5 := Lib.hid (HSx.out.op h1 h2); clear h1 h2)
          go_roundw
          case rel => exact ⟨i + 1, v5, by omega, by omega, by go_num, by rw [Hnx.out]; exact HS5.out⟩
          case measure => simp [intOf]; omega
        · by_cases hk4 : a % 5 = 4
          · have t3 : ((a : Int) % 5 == 3) = false := by simp; omega
            have t4 : ((a : Int) % 5 == 4) = true := by simp; omega
            have hso : Rc.stepOps ps ⟨a, wh, y, n, t⟩ = ([.part (⟨a, wh, y, n, t⟩ : Rc.Stp).pStart (⟨a, wh, y, n, t⟩ : Rc.Stp).pSize (⟨a, wh, y, n, t⟩ : Rc.Stp).pTotal], ps) := by unfold Rc.stepOps; rw [if_neg hk3, if_pos hk4]
            rw [hso] at Hnx
            have hpt := part_is a wh y n t Hok.out X
            have Hpt := Lib.hid hpt
            have hpk := (⟨a, wh, y, n, t⟩ : Rc.Stp).pt Hok.out
            have Hpk := Lib.hid hpk
            obtain ⟨S, hS⟩ : ∃ S, (⟨a, wh, y, n, t⟩ : Rc.Stp).pStart = S := ⟨_, rfl⟩
            obtain ⟨Z, hZ⟩ : ∃ S, (⟨a, wh, y, n, t⟩ : Rc.Stp).pSize = S := ⟨_, rfl⟩
            obtain ⟨T, hT⟩ : ∃ S, (⟨a, wh, y, n, t⟩ : Rc.Stp).pTotal = S := ⟨_, rfl⟩
            rw [hS, hZ, hT] at Hpt Hpk Hnx
            clear hk3 hk4 hso hpt hpk hS hZ hT
            go_wp2_with (first | (go_at_call 17; refine Hpt.out.mono ?_; rintro r w4 ⟨rfl, o, q, hw⟩; have HS4 := Lib.hid ((HSx.out.alloc o).drewN q); rw [← hw] at HS4; clear hw) | (go_at_call 18; refine (part_ops pe v ops S Z T _ HS4.out.enc (by have := Ho3.out; omega) Hpk.out).mono ?_; rintro r w5 ⟨rfl, v5, h1, h2⟩; have HS5 := Lib.hid (HS4.out.op h1 h2); clear h1 h2))
            go_roundw
            case rel => exact ⟨i + 1, v5, by omega, by omega, by go_num, by rw [Hnx.out]; exact HS5.out⟩
            case measure => simp [intOf]; omega
          · have t3 : ((a : Int) % 5 == 3) = false := by simp; omega
            have t4 : ((a : Int) % 5 == 4) = false := by simp; omega
            have hso : Rc.stepOps ps ⟨a, wh, y, n, t⟩ = ([.bit (ps.getD (wh % 4) 0) (y % 2)], ps.set (wh % 4) (Rc.learn (ps.getD (wh % 4) 0) (y % 2))) := by unfold Rc.stepOps; rw [if_neg hk3, if_neg hk4]
            rw [hso] at Hnx
            obtain ⟨k, hk⟩ : ∃ k, wh % 4 = k := ⟨_, rfl⟩
            have hki : (wh : Int) % 4 = (k : Int) := by omega
            have hkt : (wh : Int).tmod 4 = (k : Int) := by rw [Int.tmod_eq_emod_of_nonneg (by omega)]; exact hki
            have hk4l : k < 4 := by omega
            have hk4i : (k : Int) < 4 := by omega
            have hk0i : (0 : Int) ≤ (k : Int) := by omega
            rw [hk] at Hnx
            have hpr := Ho2.out.ok _ hk4l
            have hcp : X.cell? ⟨bp, k, none⟩ = some (.int .u16 ((ps.getD (k) 0 : Nat) : Int)) := (cell_of HSx.out.hp _).trans (arr_get Ho2.out hk4l)
            have hd := bit_ops pe v ops bp (k) (ps.getD (k) 0) (y % 2) X.drew (HSx.out.drewN 1).enc (by have := Ho3.out; omega) hpr (Nat.mod_lt _ (by decide)) hcp (free_of HSx.out.hp _) (not_foot HSx.out.enc HSx.out.hp (by decide) (by decide))
            have Hd := Lib.hid hd
            clear hk3 hk4 hso hd hpr hcp hk hk4l
            go_upto_region 10 with fail
            clear hlen b3' hi2 hl2 hi
            go_still_tail 9, (by kernel_rfl)
            go_wp2_with (go_at_call 20; refine Hd.out.mono ?_; rintro r w5 ⟨rfl, v5, h1, h2⟩; have HS5 := Lib.hid ((HSx.out.drewN 1).set _ _ h1 h2); clear h1 h2)
            all_goals go_wp2
            all_goals go_roundw
            all_goals first | (exact ⟨i + 1, v5, hl1, by omega, by go_num, by rw [Hnx.out]; exact HS5.out⟩) | (simp [intOf]; omega)
      · have hN : i = min len 120 := by omega
        have HN := Lib.hid hN
        clear hN
        by_cases hl : i < len
        · obtain rfl : i = 120 := by omega
          clear hlt
          go_wp2
          go_meet
          exact ⟨v, by rw [← HN.out]; exact HS⟩
        · clear hlt
          have hl' : decide (i < len) = false := by simpa using hl
          go_wp2
          go_meet
          exact ⟨v, by rw [← HN.out]; exact HS⟩
  case rest =>
    obtain ⟨v, HS⟩ := hcut
    clear Hst
    obtain ⟨N, hN⟩ : ∃ N, min len 120 = N := ⟨_, rfl⟩
    rw [hN] at HS
    have HN := Lib.hid hN
    clear hN
    go_upto_region 16 with fail
    go_cut [1] (fun v1 w' => ∃ t : ByteArray, t.size ≤ 5 ∧ v1 = .string t ∧ w' = wc)
    case first =>
      have hs := Hs.out
      by_cases h5 : s.size ≤ 5
      · go_wp2
        go_meet
        case rel => refine ⟨_, ?_, rfl, rfl⟩; (first | omega | (rw [ByteArray.size_extract]; omega))
      · go_wp2
        go_meet
        case rel => refine ⟨_, ?_, rfl, rfl⟩; (first | omega | (rw [ByteArray.size_extract]; omega))
    obtain ⟨t, htl, rfl, rfl⟩ := hcut
    obtain ⟨M, hM⟩ : ∃ M, t.data.toList = M := ⟨_, rfl⟩
    obtain rfl : t = ⟨M.toArray⟩ := by rw [← hM]
    have htemp : (ByteArray.mk M.toArray).toList.isEmpty = M.isEmpty := by rw [ByteArray.toList_eq]
    replace htl : M.length ≤ 5 := by simpa [ByteArray.size] using htl
    have Hse := Lib.hid htemp
    have Htl := Lib.hid htl
    clear hM htemp htl
    have hoo := Rc.opsOf_ok HP.out (fun i => Hf.out i) N
    obtain ⟨ops, hops⟩ : ∃ ops, (Rc.opsOf P0 f N).1 = ops := ⟨_, rfl⟩
    rw [hops] at hoo HS
    have hlen2 : ops.length ≤ 3840 := by have := hoo.2.2; have := HN.out; omega
    have hby := Rc.bytes_is hoo.1
    have hbl : (Rc.bytes ops ++ M).length ≤ 1000000000 := by
      have h1 := run_k Rc.A.start ops
      have h2 := hby.l
      have h3 : Rc.A.start.k = 0 := rfl
      have := Htl.out
      rw [List.length_append]; omega
    have hcat : (ByteArray.mk (Rc.bytes ops).toArray) ++ (ByteArray.mk M.toArray) = ⟨(Rc.bytes ops ++ M).toArray⟩ := by
      apply ByteArray.ext
      rw [ByteArray.data_append]
      simp
    obtain ⟨B, hB⟩ : ∃ B, Rc.bytes ops = B := ⟨_, rfl⟩
    have Hop := Lib.hid hops
    have Hfine := Lib.hid hoo.1
    have HPsN := Lib.hid hoo.2.1
    have Hl2 := Lib.hid hlen2
    rw [hB] at hcat hbl hby
    have HB := Lib.hid hB
    have Hby := Lib.hid hby
    have Hbl := Lib.hid hbl
    have Hcat := Lib.hid hcat
    clear hB hby hbl hcat hoo hops hlen2
    have hsum : ¬ 9223372036854775807 < B.length + M.length := by have := Hbl.out; simp at this; omega
    go_upto_region 18 with (first | (go_at_call 22; refine (end_ops _ _ _ _ HS.out.enc (by have := Hl2.out; omega)).mono ?_; rintro r w5 ⟨rfl, h2⟩; rw [HB.out]; have HF5 := Lib.hid (HS.out.fr.trans h2 (fun _ h => .inl h)); have Hp5 := Lib.hid (h2.keep HS.out.hp (fun h => h)); have Hq5 := Lib.hid (h2.keep HS.out.hq (fun h => h)); clear h2) | (go_at_call 24; rw [Hcat.out]; refine (dec_new _ _ Hbl.out).mono ?_; rintro r w6 ⟨rfl, h1, hg, h2⟩; have HD6 := Lib.hid h1; have HG6 := Lib.hid hg; have HF6 := Lib.hid (HF5.out.trans h2 (fun _ h => .inl h)); have Hp6 := Lib.hid (h2.keep Hp5.out (fun h => h)); have Hq6 := Lib.hid (h2.keep Hq5.out (fun h => h)); have Hl6 := Lib.hid HF5.out.size; clear h1 h2 hg))
    obtain ⟨psN, hpsN⟩ : ∃ psN, (Rc.opsOf P0 f N).2 = psN := ⟨_, rfl⟩
    rw [hpsN] at Hp6 HPsN
    have Hps := Lib.hid hpsN
    have hst : DecSt w w6 w5.heap.size bp bq (Rc.D.read (B ++ M)) psN P0 := ⟨HD6.out, HG6.out, Hp6.out, Hq6.out, HS.out.ne, HF6.out, Hl6.out, by have h1 := HS.out.fr; have h2 := HS.out.hiq; exact h2⟩
    have hrel0 := Hby.out.start Hfine.out M
    have Hst := Lib.hid hst
    have Hrel := Lib.hid hrel0
    obtain ⟨pd, hpd⟩ : ∃ pd, w5.heap.size = pd := ⟨_, rfl⟩
    rw [hpd] at Hst ⊢
    clear hst hrel0 hpd HD6 HG6 Hp6 Hq6 HF6 Hl6 Hp5 Hq5 HF5 hpsN
    clear hsum HS Hcat Hse Hbl
    go_upto_block 3 with fail
    go_cut [14] (fun _ wr => ∃ d, Hid (DecSt w wr pd bp bq d psN psN) ∧ Hid (Rc.RelD B M d (Rc.A.start.run ops)))
    case first =>
      go_wp2
      go_loopw [14] (fun v14 wr => ∃ (i : Nat) (d : Rc.D), i ≤ N ∧ v14 = .int .i64 (i : Int) ∧ Hid (DecSt w wr pd bp bq d psN (Rc.opsOf P0 f i).2) ∧ Hid (Rc.RelD B M d (Rc.A.start.run (Rc.opsOf P0 f i).1))) (fun v14 _ => 120 - (intOf v14).toNat)
      case atStart => exact ⟨0, _, Nat.zero_le _, rfl, Hst.out, Hrel.out⟩
      case round =>
        obtain ⟨i, d, hi, rfl, HS, HR⟩ := hrel
        clear Hst Hrel
        by_cases hlt : i < N
        · have hl1 : i < len := by have := HN.out; omega
          have hl2 : i < 120 := by have := HN.out; omega
          obtain ⟨b, off, rfl, hx⟩ := Hat.out i hl1
          obtain ⟨c0, c1, c2, c3, c4⟩ := hx.keep HS.out.fr
          have hok := Hf.out i
          have hoo := Rc.opsOf_ok HP.out (fun i => Hf.out i) i
          obtain ⟨l, hl⟩ := Rc.opsOf_prefix P0 f (i + 1) N (by omega)
          rw [Hop.out] at hl
          obtain ⟨os, hos⟩ : ∃ os, (Rc.opsOf P0 f i).1 = os := ⟨_, rfl⟩
          obtain ⟨qs, hqs⟩ : ∃ qs, (Rc.opsOf P0 f i).2 = qs := ⟨_, rfl⟩
          have hnx : Rc.opsOf P0 f (i + 1) = (os ++ (Rc.stepOps qs (f i)).1, (Rc.stepOps qs (f i)).2) := by simp only [Rc.opsOf]; rw [hos, hqs]
          have hin : Rc.In B (Rc.A.start.run (os ++ (Rc.stepOps qs (f i)).1)) := by
            have h1 := Hby.out
            have h2 := Hfine.out
            rw [hl] at h1 h2
            rw [hnx] at h1 h2
            exact h1.in_ h2
          rw [hos, hqs] at hoo
          rw [hqs] at HS
          rw [hos] at HR
          obtain ⟨ho1, ho2, ho3⟩ := hoo
          have hgd := Rc.A.Good.start.run ho1
          rw [Rc.A.run_append] at hin
          have Hin := Lib.hid hin
          have Hgd : Hid (Rc.A.start.run os).Good := hgd
          have Hnx := Lib.hid hnx
          have hd0 : Rc.A.start.run (Rc.opsOf P0 f (i + 1)).1 = (Rc.A.start.run os).run (Rc.stepOps qs (f i)).1 := by rw [hnx]; exact Rc.A.run_append _ _ _
          have hq0 : (Rc.opsOf P0 f (i + 1)).2 = (Rc.stepOps qs (f i)).2 := by rw [hnx]
          have Hd0 := Lib.hid hd0
          have Hq0 := Lib.hid hq0
          clear hnx hos hqs ho1 hx hl hin hgd hd0 hq0 ho3
          generalize Rc.A.start.run os = ra at *
          generalize f i = x at *
          obtain ⟨a, wh, y, n, t⟩ := x
          have b1 := hok.what
          have b2 := hok.which
          have b3 := hok.v
          have b4 := hok.n
          have b5 := hok.total
          dsimp only at c0 c1 c2 c3 c4 b1 b2 b3 b4 b5
          have Hok := Lib.hid hok
          have Ho2 := Lib.hid ho2
          have b3' : (y : Int) < 4294967296 := by omega
          have hii : (i : Int) < 120 := by omega
          have hll : (i : Int) < (len : Int) := by omega
          have hiN : i + 1 ≤ N := by omega
          have HiN := Lib.hid hiN
          clear hok ho2 b3 hi hlt hiN
          have hxb := heap_alloc_new wr (.cells #[.int .u8 (a : Int), .int .u8 (wh : Int), .int .u32 (y : Int), .int .u8 (n : Int), .int .u16 (t : Int)] 36)
          have HSx := Lib.hid (HS.out.alloc (.cells #[.int .u8 (a : Int), .int .u8 (wh : Int), .int .u32 (y : Int), .int .u8 (n : Int), .int .u16 (t : Int)] 36))
          go_upto_region 22 with fail
          obtain ⟨X, hX⟩ : ∃ X, wr.alloc (.cells #[.int .u8 (a : Int), .int .u8 (wh : Int), .int .u32 (y : Int), .int .u8 (n : Int), .int .u16 (t : Int)] 36) = X := ⟨_, rfl⟩
          obtain ⟨xb, hb⟩ : ∃ xb, wr.heap.size = xb := ⟨_, rfl⟩
          rw [hX] at HSx hxb ⊢
          rw [hb] at hxb ⊢
          clear HS hX hb c0 c1 c2 c3 c4
          have c0 : X.cell? ⟨xb, 0, none⟩ = some (.int .u8 (a : Int)) := (cell_of hxb 0).trans rfl
          have c1 : X.cell? ⟨xb, 1, none⟩ = some (.int .u8 (wh : Int)) := (cell_of hxb 1).trans rfl
          have c2 : X.cell? ⟨xb, 2, none⟩ = some (.int .u32 (y : Int)) := (cell_of hxb 2).trans rfl
          have c3 : X.cell? ⟨xb, 3, none⟩ = some (.int .u8 (n : Int)) := (cell_of hxb 3).trans rfl
          have c4 : X.cell? ⟨xb, 4, none⟩ = some (.int .u16 (t : Int)) := (cell_of hxb 4).trans rfl
          have Hxb := Lib.hid hxb
          have hxd : xb ≠ pd := ne_of_ty hxb HSx.out.dec.blk (by decide)
          have hxq : xb ≠ bq := ne_of_ty hxb HSx.out.hq (by decide)
          have Hxd := Lib.hid hxd
          have Hxq := Lib.hid hxq
          have hand := and1_u32 y (by omega)
          clear hxb hxd hxq
          by_cases hk3 : a % 5 = 3
          · have t3 : ((a : Int) % 5 == 3) = true := by simp; omega
            have hso : Rc.stepOps qs ⟨a, wh, y, n, t⟩ = (Rc.bitsOf y (n % 33), qs) := by unfold Rc.stepOps; rw [if_pos hk3]
            rw [hso] at Hd0 Hq0 Hin
            obtain ⟨K, hK⟩ : ∃ K, n % 33 = K := ⟨_, rfl⟩
            rw [hK] at Hd0 Hin
            have hKi : (n : Int) % 33 = (K : Int) := by omega
            have hK32 : K ≤ 32 := by omega
            have hK32i : (K : Int) ≤ 32 := by omega
            have hK0i : (0 : Int) ≤ (K : Int) := by omega
            have hrd := Rc.RelD.directs HR.out y K 0 Hgd.out Hin.out
            have hd := dec_direct pd d K X.drew HSx.out.dec.drew HSx.out.g hK32
            rw [hrd.1, Nat.zero_mul, Nat.zero_add] at hd
            have Hd := Lib.hid hd
            have Hrd := Lib.hid hrd.2
            have hp32 : (2 : Nat) ^ K ≤ 4294967296 := Nat.pow_le_pow_right (by decide) hK32
            have hp1 : 1 ≤ (2 : Nat) ^ K := Nat.one_le_two_pow
            have hpi : ((2 : Int) ^ K) = ((2 ^ K : Nat) : Int) := by simp
            have hsh : IntKind.u64.wrap ((2 : Int) ^ K) = (2 : Int) ^ K := by rw [hpi]; exact IntWalk.u64_in _ (by omega)
            have hsub : IntKind.u64.wrap ((2 : Int) ^ K - 1) = (2 : Int) ^ K - 1 := by rw [hpi]; exact IntWalk.u64_in _ (by omega)
            have hcv : IntKind.u64.wrap (y : Int) = (y : Int) := IntWalk.u64_in _ (by omega)
            have hmask : Go.bits .and .u64 (y : Int) ((2 : Int) ^ K - 1) = ((y % 2 ^ K : Nat) : Int) := by
              rw [bits_mask .u64 64 (by decide) (fun n h0 h1 => IntWalk.u64_in n (by omega)) K (by omega) _ (by omega) (by omega)]
              simp
            have hcd : IntKind.u64.wrap ((y % 2 ^ K : Nat) : Int) = ((y % 2 ^ K : Nat) : Int) := IntWalk.u64_in _ (by have := Nat.mod_le y (2 ^ K); omega)
            obtain ⟨V, hV⟩ : ∃ V, y % 2 ^ K = V := ⟨_, rfl⟩
            rw [hV] at Hd hmask hcd
            clear hk3 hso hd hrd hK hp32 hp1 hpi hV hand
            go_upto_region 27 with fail
            clear hlen b3'
            go_region_with (go_at_call 25; refine Hd.out.mono ?_; rintro r w7 ⟨rfl, h1, h2, h3⟩; have HS7 := Lib.hid (HSx.out.drew.op h1 h2 h3); have e2 := h3.cell_ (show X.drew.cell? ⟨xb, 2, none⟩ = some (.int .u32 (y : Int)) from c2) Hxd.out; clear h1 h2 h3)
            all_goals clear hsh hsub hcv hmask
            all_goals go_wp2
            all_goals go_roundw
            all_goals first | (simp [intOf]; omega) | skip
            all_goals exact ⟨i + 1, _, HiN.out, by go_num, by rw [Hq0.out]; exact HS7.out, by rw [Hd0.out]; exact Hrd.out⟩
          · by_cases hk4 : a % 5 = 4
            · have t3 : ((a : Int) % 5 == 3) = false := by simp; omega
              have t4 : ((a : Int) % 5 == 4) = true := by simp; omega
              have hso : Rc.stepOps qs ⟨a, wh, y, n, t⟩ = ([.part (⟨a, wh, y, n, t⟩ : Rc.Stp).pStart (⟨a, wh, y, n, t⟩ : Rc.Stp).pSize (⟨a, wh, y, n, t⟩ : Rc.Stp).pTotal], qs) := by unfold Rc.stepOps; rw [if_neg hk3, if_pos hk4]
              rw [hso] at Hd0 Hq0 Hin
              have hpt := part_is a wh y n t Hok.out X
              have Hpt := Lib.hid hpt
              have hpk := (⟨a, wh, y, n, t⟩ : Rc.Stp).pt Hok.out
              have hT65 : (⟨a, wh, y, n, t⟩ : Rc.Stp).pTotal ≤ 65536 := by unfold Rc.Stp.pTotal; dsimp only; omega
              obtain ⟨S, hS⟩ : ∃ S, (⟨a, wh, y, n, t⟩ : Rc.Stp).pStart = S := ⟨_, rfl⟩
              obtain ⟨Z, hZ⟩ : ∃ S, (⟨a, wh, y, n, t⟩ : Rc.Stp).pSize = S := ⟨_, rfl⟩
              obtain ⟨T, hT⟩ : ∃ S, (⟨a, wh, y, n, t⟩ : Rc.Stp).pTotal = S := ⟨_, rfl⟩
              rw [hS, hZ, hT] at Hpt Hd0 Hin hpk
              rw [hT] at hT65
              have hin' : Rc.In B (ra.part S Z T) := Hin.out
              have hrd := Rc.RelD.part HR.out Hgd.out hpk hin'
              have hpi := Rc.part_in Hgd.out.lo hpk
              rw [← HR.out.size] at hpi
              have hpq : (d.where_ T).2.part = d.size / T := rfl
              rw [← hpq] at hpi
              have Hpq : Hid (1 ≤ (d.where_ T).2.part * Z ∧ (d.where_ T).2.part * Z < 4294967296) := ⟨hpi.2.1, by have := HSx.out.g.hi; omega⟩
              have Hg1 := Lib.hid (HSx.out.g.where_ T)
              have hwh : ∀ W, DecAt W pd d → Calls Try.prog 26 #[.pointer (some ⟨pd, 0, none⟩), .int .u32 (T : Int)] W fun r w' => r = .returned (.int .u32 ((d.where_ T).1 : Int)) ∧ DecAt w' pd (d.where_ T).2 ∧ Fr (one pd) W w' := fun W hW => dec_where pd d T W hW HSx.out.g (by have := hpk.one; have := hpk.in_; omega) hpk.small
              have Hwh := Lib.hid hwh
              have Hrd := Lib.hid hrd.2.2
              obtain ⟨W0, hW0⟩ : ∃ W0, (d.where_ T).1 = W0 := ⟨_, rfl⟩
              obtain ⟨d1, hd1⟩ : ∃ d1, (d.where_ T).2 = d1 := ⟨_, rfl⟩
              rw [hd1] at Hrd Hpq Hg1
              rw [hW0, hd1] at Hwh
              rw [hW0] at hrd
              have hin2 := hpk.in_
              have hw1 : decide (W0 < S) = false := by simp; omega
              have hw2 : decide ((S : Int) + (Z : Int) ≤ (W0 : Int)) = false := by simp; omega
              have hSZ : (S : Int) + (Z : Int) ≤ 65536 := by omega
              have hS65 : S ≤ 65536 := by omega
              have hZ65 : Z ≤ 65536 := by omega
              have HS65 := Lib.hid hS65
              have HZ65 := Lib.hid hZ65
              clear hk3 hk4 hso hpt hpk hS hZ hT hin' hrd hpi hpq hwh hW0 hd1 hin2 hT65 hS65 hZ65 hand
              go_wp2_with (first | (go_at_call 17; refine Hpt.out.mono ?_; rintro r w4 ⟨rfl, o, q, hw⟩; have HS4 := Lib.hid ((HSx.out.alloc o).drewN q); rw [← hw] at HS4; clear hw) | (go_at_call 26; refine (Hwh.out _ HS4.out.dec).mono ?_; rintro r w5 ⟨rfl, h1, h2⟩; have HS5 := Lib.hid (HS4.out.op h1 Hg1.out h2); clear h1 h2) | (go_at_call 27; refine (dec_take pd d1 S Z _ HS5.out.dec HS5.out.g.len Hpq.out.1 Hpq.out.2 HS5.out.g.part (by have := HS65.out; omega) (by have := HZ65.out; omega)).mono ?_; rintro r w6 ⟨rfl, h1, h2⟩; have HS6 := Lib.hid (HS5.out.op h1 (HS5.out.g.take Hpq.out.1 Hpq.out.2) h2); clear h1 h2))
              go_roundw
              case rel => exact ⟨i + 1, _, HiN.out, by go_num, by rw [Hq0.out]; exact HS6.out, by rw [Hd0.out]; exact Hrd.out⟩
              case measure => simp [intOf]; omega
            · have t3 : ((a : Int) % 5 == 3) = false := by simp; omega
              have t4 : ((a : Int) % 5 == 4) = false := by simp; omega
              have hso : Rc.stepOps qs ⟨a, wh, y, n, t⟩ = ([.bit (qs.getD (wh % 4) 0) (y % 2)], qs.set (wh % 4) (Rc.learn (qs.getD (wh % 4) 0) (y % 2))) := by unfold Rc.stepOps; rw [if_neg hk3, if_neg hk4]
              rw [hso] at Hd0 Hq0 Hin
              obtain ⟨k, hk⟩ : ∃ k, wh % 4 = k := ⟨_, rfl⟩
              have hki : (wh : Int) % 4 = (k : Int) := by omega
              have hkt : (wh : Int).tmod 4 = (k : Int) := by rw [Int.tmod_eq_emod_of_nonneg (by omega)]; exact hki
              have hk4l : k < 4 := by omega
              have hk4i : (k : Int) < 4 := by omega
              have hk0i : (0 : Int) ≤ (k : Int) := by omega
              rw [hk] at Hd0 Hq0 Hin
              have hpr := Ho2.out.ok _ hk4l
              have hcp : X.drew.cell? ⟨bq, k, none⟩ = some (.int .u16 ((qs.getD k 0 : Nat) : Int)) := (cell_of HSx.out.hq _).trans (arr_get Ho2.out hk4l)
              have hqd : bq ≠ pd := ne_of_ty HSx.out.hq HSx.out.dec.blk (by decide)
              have hin' : Rc.In B (ra.bit (qs.getD k 0) (y % 2)) := Hin.out
              have hrd := Rc.RelD.bit HR.out (Nat.mod_lt y (by decide)) hin'
              have hd := dec_bit pd d bq k (qs.getD k 0) X.drew HSx.out.dec.drew HSx.out.g hpr hcp (free_of HSx.out.hq _) hqd
              rw [hrd.1] at hd
              have Hd := Lib.hid hd
              have Hrd := Lib.hid hrd.2
              have Hg1 := Lib.hid (HSx.out.g.bit hpr)
              obtain ⟨Y, hY⟩ : ∃ Y, y % 2 = Y := ⟨_, rfl⟩
              rw [hY] at hand Hd Hrd Hd0 Hq0
              have hY2 : (Y : Int) < 2 := by omega
              have hcv : IntKind.i64.wrap (Y : Int) = (Y : Int) := IntWalk.i64_in _ (by omega)
              clear hk3 hk4 hso hd hpr hcp hk hk4l hrd hin' hY
              go_upto_region 23 with fail
              clear hlen b3'
              go_region_with (go_at_call 28; refine Hd.out.mono ?_; rintro r w7 ⟨rfl, h1, h2⟩; have HS7 := Lib.hid (HSx.out.drew.set k _ h1 Hg1.out h2); have e2 : w7.cell? ⟨xb, 2, none⟩ = some (.int .u32 (y : Int)) := (cell_of (h2.keep (block_setCell_other (w := X.drew) Hxb.out Hxq.out _) Hxd.out) 2).trans rfl; clear h1 h2)
              all_goals go_wp2
              all_goals go_roundw
              all_goals first | (simp [intOf]; omega) | skip
              all_goals exact ⟨i + 1, _, HiN.out, by go_num, by rw [Hq0.out]; exact HS7.out, by rw [Hd0.out]; exact Hrd.out⟩
        · have hiN : i = N := by omega
          rw [hiN, Hps.out] at HS
          rw [hiN, Hop.out] at HR
          have hN2 := HN.out
          by_cases hl : i < len
          · have hl' : decide (i < len) = true := by simpa using hl
            have h120 : (i : Int) = 120 := by omega
            have h120' : decide ((i : Int) < 120) = false := by simp; omega
            clear hlt hN2 hiN hi h120 hl
            go_wp2
            go_meet
            exact ⟨d, HS, HR⟩
          · have hl' : decide (i < len) = false := by simpa using hl
            clear hlt hN2 hiN hi hl
            go_wp2
            go_meet
            exact ⟨d, HS, HR⟩
    case rest =>
      obtain ⟨d, HS, HR⟩ := hcut
      clear Hst Hrel
      go_upto_region 35 with fail
      obtain ⟨hdone, hbad⟩ := Hby.out.done HR.out
      have hp := HS.out.hp
      have hq := HS.out.hq
      obtain ⟨x0, x1, x2, x3, hx⟩ : ∃ a b c d, psN = [a, b, c, d] := by
        have hl := HPsN.out.len
        match psN, hl with
        | [a, b, c, d], _ => exact ⟨a, b, c, d, rfl⟩
      rw [hx] at hp hq
      have p0 : wc.cell? ⟨bp, 0, none⟩ = some (.int .u16 (x0 : Int)) := (cell_of hp 0).trans rfl
      have p1 : wc.cell? ⟨bp, 1, none⟩ = some (.int .u16 (x1 : Int)) := (cell_of hp 1).trans rfl
      have p2 : wc.cell? ⟨bp, 2, none⟩ = some (.int .u16 (x2 : Int)) := (cell_of hp 2).trans rfl
      have p3 : wc.cell? ⟨bp, 3, none⟩ = some (.int .u16 (x3 : Int)) := (cell_of hp 3).trans rfl
      have q0 : wc.cell? ⟨bq, 0, none⟩ = some (.int .u16 (x0 : Int)) := (cell_of hq 0).trans rfl
      have q1 : wc.cell? ⟨bq, 1, none⟩ = some (.int .u16 (x1 : Int)) := (cell_of hq 1).trans rfl
      have q2 : wc.cell? ⟨bq, 2, none⟩ = some (.int .u16 (x2 : Int)) := (cell_of hq 2).trans rfl
      have q3 : wc.cell? ⟨bq, 3, none⟩ = some (.int .u16 (x3 : Int)) := (cell_of hq 3).trans rfl
      have Hdone := Lib.hid hdone
      have Hbad := Lib.hid hbad
      have hse : (ByteArray.mk M.toArray).toList.isEmpty = M.isEmpty := by rw [ByteArray.toList_eq]
      obtain ⟨e, he⟩ : ∃ e, M.isEmpty = e := ⟨_, rfl⟩
      rw [he] at hse Hdone
      generalize ByteArray.mk M.toArray = S at *
      have heq := eq4 (x0 : Int) (x1 : Int) (x2 : Int) (x3 : Int) wc
      clear hdone hbad hp hq hx he hlen
      cases e
      all_goals
        go_wp2_with (first | (go_at_call 29; refine (dec_bad _ _ _ HS.out.dec).mono ?_; rintro r w8 ⟨rfl, hw⟩; rw [← hw, Hbad.out]; clear hw) | (go_at_call 30; refine (dec_done _ _ _ HS.out.dec).mono ?_; rintro r w8 ⟨rfl, hw⟩; rw [← hw, Hdone.out]; clear hw))
        go_ret
        exact ⟨rfl, HS.out.fr⟩
end Go.Proofs.Ytpddocehjljofaa
