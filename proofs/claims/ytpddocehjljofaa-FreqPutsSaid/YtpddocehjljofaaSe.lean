/- The laws of layer 5: a set of signs, ours and the document's. -/
import Derived.Test.YtpddocehjljofaaSp5
import Derived.Deep.RegionHeld3
import Derived.Deep.MidRow
namespace Go.Fq
/-- The set of the first signs of a text. -/
def stF (g : Nat → Nat) : Nat → (Nat → Bool)
  | 0 => fun _ => false
  | i + 1 => fun k => stF g i k || (k == g i)
def stN (g : Nat → Nat) : Nat → Nat
  | 0 => 0
  | i + 1 => if stF g i (g i) then stN g i else stN g i + 1
theorem below_add (f : Nat → Bool) (x k : Nat) : below (fun i => f i || (i == x)) k + (if x < k ∧ f x = false then 1 else 0) = below f k := by
  induction k with
  | zero => simp [below]
  | succ k ih =>
    simp only [below]
    by_cases hk : k = x
    · subst hk
      rw [if_neg (by omega), Nat.add_zero] at ih
      by_cases hf : f k = true
      · rw [if_pos (by simp), if_neg (by simp [hf]), if_pos hf]
        exact ih
      · rw [if_pos (by simp), if_pos ⟨by omega, by simpa using hf⟩, if_neg hf, ih]
    · have e1 : (if x < k + 1 ∧ f x = false then 1 else 0) = (if x < k ∧ f x = false then 1 else 0) := by
        have : x < k + 1 ↔ x < k := ⟨fun h => by omega, fun h => by omega⟩
        simp only [this]
      rw [e1]
      by_cases hf : f k = true
      · rw [if_pos (by simp [hf]), if_pos hf]
        exact ih
      · rw [if_neg (by simp [hf, hk]), if_neg hf]
        omega
theorem below_none (k : Nat) : below (fun _ => false) k = k := by
  induction k with
  | zero => rfl
  | succ k ih => simp only [below, ih]; rfl
theorem st_sum (g : Nat → Nat) (hg : ∀ i, g i < 256) (i : Nat) : stN g i + below (stF g i) 256 = 256 := by
  induction i with
  | zero => simp [stN, stF, below_none]
  | succ i ih =>
    have h := below_add (stF g i) (g i) 256
    simp only [stN, stF]
    have h2 := hg i
    cases hf : stF g i (g i)
    · rw [if_pos ⟨h2, hf⟩] at h
      rw [if_neg (by simp)]
      omega
    · rw [if_neg (by simp [hf])] at h
      rw [if_pos rfl]
      omega
end Go.Fq
namespace Go.Proofs.Ytpddocehjljofaa
set_option linter.unusedVariables false
open Go.RowKit Go.My

def boolArr (f : Nat → Bool) : Array Value := ((List.range 256).map (fun i => Value.bool (f i))).toArray
theorem boolArr_size (f : Nat → Bool) : (boolArr f).size = 256 := by simp [boolArr]
theorem boolArr_add (f : Nat → Bool) (x : Nat) (h : x < 256) : (boolArr f).setIfInBounds x (.bool true) = boolArr (addB f x) := by
  apply Array.ext_getElem?
  intro i
  rw [Array.getElem?_setIfInBounds]
  unfold boolArr addB
  rw [List.getElem?_toArray, List.getElem?_toArray]
  by_cases hx : x = i
  · subst hx
    simp [h]
  · rw [if_neg hx]
    rcases Nat.lt_or_ge i 256 with h2 | h2
    · simp [h2, Ne.symm hx]
    · rw [List.getElem?_eq_none (by simpa using h2), List.getElem?_eq_none (by simpa using h2)]

theorem fr_setCells {S : Nat → Prop} (b : Nat) (hb : S b) : ∀ (vs : List Value) (o : Nat) (w : World), Fr S w (w.setCells b o vs)
  | [], o, w => Fr.refl _ _
  | v :: vs, o, w => ((Fr.refl S w).setCell ⟨b, o, none⟩ v (.inl hb)).trans (fr_setCells b hb vs (o + 1) _) (fun _ h => .inl h)
theorem results_tmp_cell {P : Program} {fn : Func} {tmps : Array Value} {w : World} {t c : Nat} {ty : TypeId} {v1 v2 : Value} {ad : Addr} (h : fn.results = #[.tmp t, .cell c ty]) (h1 : tmps[t]?.getD undef = v1) (h2 : tmps[c]?.getD undef = .pointer (some ad)) (hl : (loadVar ty ad).run P w = .ok v2 w) :
    (results fn tmps).run P w = .ok (.tuple #[v1, v2]) w := by
  unfold results
  rw [h]
  generalize loadVar = LV at hl
  simp [go_sem, h1, h2, hl]
/-- The sign at a place of a text. -/
def byteAt (s : ByteArray) (i : Nat) : Nat := if h : i < s.size then (s[i]).toNat else 0
theorem byteAt_lt (s : ByteArray) (i : Nat) : byteAt s i < 256 := by
  unfold byteAt
  split
  · exact (s[i]).toNat_lt
  · decide

set_option maxHeartbeats 4000000 in
set_option maxRecDepth 100000 in
theorem sets_walk (s : ByteArray) (hs : s.size ≤ 9223372036854775807) (w : World) :
    Calls Try.prog 53 #[.string s] w fun r w' => ∃ q, r = .returned (.tuple #[.pointer (some ⟨q, 0, none⟩), .agg (boolArr (Fq.stF (byteAt s) (min s.size 200)))]) ∧ w.heap.size ≤ q ∧ SetAt w' q (Fq.stF (byteAt s) (min s.size 200)) (Fq.stN (byteAt s) (min s.size 200)) ∧ Fr (fun _ => False) w w' := by
  obtain ⟨G, hG⟩ : ∃ G, byteAt s = G := ⟨_, rfl⟩
  have hGl : ∀ i, G i < 256 := fun i => by rw [← hG]; exact byteAt_lt s i
  have hGs : ∀ i (h : i < s.size), (s[i]).toNat = G i := fun i h => by rw [← hG]; unfold byteAt; rw [dif_pos h]
  rw [hG]
  have HGl := Lib.hid hGl
  have HGs := Lib.hid hGs
  clear hG hGl hGs
  have hz1 : Try.zeroCells100 = boolArr (fun _ => false) := by kernel_rfl
  have hz2 : Try.zeroCells135 = setArr (fun _ => false) 0 := by kernel_rfl
  go_enter Try.func53, Try.ntmps53
  go_upto_block 0 with fail
  clear hz1 hz2
  have hst : ∃ W b3 q b5, ((w.alloc (.cells (boolArr (fun _ => false)) 100)).alloc (.cells (setArr (fun _ => false) 0) 135)).alloc (.cells (boolArr (fun _ => false)) 100) = W ∧ w.heap.size = b3 ∧ w.heap.size + 1 = q ∧ w.heap.size + 1 + 1 = b5 ∧ Fr (fun _ => False) w W ∧ W.heap[b3]? = some (.cells (boolArr (Fq.stF G 0)) 100 (0, 0)) ∧ SetAt W q (Fq.stF G 0) (Fq.stN G 0) ∧ W.heap[b5]? = some (.cells (boolArr (Fq.stF G 0)) 100 (0, 0)) :=
    ⟨_, _, _, _, rfl, rfl, rfl, rfl, (((Fr.refl _ _).alloc _).alloc _).alloc _, block_alloc (block_alloc (heap_alloc_new w _)), block_alloc (two_new w _ _), by
      have h := heap_alloc_new ((w.alloc (.cells (boolArr (fun _ => false)) 100)).alloc (.cells (setArr (fun _ => false) 0) 135)) (.cells (boolArr (fun _ => false)) 100)
      rw [show ((w.alloc (.cells (boolArr (fun _ => false)) 100)).alloc (.cells (setArr (fun _ => false) 0) 135)).heap.size = w.heap.size + 1 + 1 by simp] at h
      exact h⟩
  obtain ⟨W, b3, q, b5, hW, h3, hq, h5, hF, hb3, hbq, hb5⟩ := hst
  rw [hW, h5, hq, h3]
  have l3 : w.heap.size ≤ b3 := by omega
  have lq : w.heap.size ≤ q := by omega
  have l5 : w.heap.size ≤ b5 := by omega
  have n35 : b3 ≠ b5 := by omega
  have nq5 : q ≠ b5 := by omega
  have nq3 : q ≠ b3 := by omega
  have HF := Lib.hid hF
  have Hb3 := Lib.hid hb3
  have Hbq := Lib.hid hbq
  have Hb5 := Lib.hid hb5
  clear hW h3 hq h5 hF hb3 hbq hb5
  have L3 := Lib.hid l3
  have LQ := Lib.hid lq
  have L5 := Lib.hid l5
  clear l3 lq l5
  go_cut [6] (fun _ wx => Hid (Fr (fun _ => False) w wx) ∧ Hid (wx.heap[b3]? = some (.cells (boolArr (fun _ => false)) 100 (0, 0))) ∧ Hid (SetAt wx q (Fq.stF G (min s.size 200)) (Fq.stN G (min s.size 200))) ∧ Hid (wx.heap[b5]? = some (.cells (boolArr (Fq.stF G (min s.size 200))) 100 (0, 0))))
  case first =>
    go_wp2
    go_loopw [6] (fun v6 wr => ∃ i : Nat, i ≤ s.size ∧ i ≤ 200 ∧ v6 = .int .i64 (i : Int) ∧ Hid (Fr (fun _ => False) w wr) ∧ Hid (wr.heap[b3]? = some (.cells (boolArr (fun _ => false)) 100 (0, 0))) ∧ Hid (SetAt wr q (Fq.stF G i) (Fq.stN G i)) ∧ Hid (wr.heap[b5]? = some (.cells (boolArr (Fq.stF G i)) 100 (0, 0)))) (fun v6 _ => 200 - (intOf v6).toNat)
    case atStart => exact ⟨0, Nat.zero_le _, by omega, rfl, HF, Hb3, Hbq, Hb5⟩
    case round =>
      obtain ⟨i, hi, hi2, rfl, KF, K3, KQ, K5⟩ := hrel
      clear HF Hb3 Hbq Hb5
      by_cases hlt : i < s.size ∧ i < 200
      · obtain ⟨hl1, hl2⟩ := hlt
        have hx := HGs.out i hl1
        have hxl := HGl.out i
        have hsum := Fq.st_sum G HGl.out i
        have hadd := set_add q _ _ (G i) wr KQ.out hxl (by omega)
        obtain ⟨X, hX⟩ : ∃ X, G i = X := ⟨_, rfl⟩
        rw [hX] at hx hxl hadd
        have hnext : SetAt = SetAt := rfl
        have hf1 : Fq.stF G (i + 1) = addB (Fq.stF G i) X := by rw [← hX]; rfl
        have hn1 : Fq.stN G (i + 1) = if Fq.stF G i X then Fq.stN G i else Fq.stN G i + 1 := by rw [← hX]; rfl
        rw [← hf1, ← hn1] at hadd
        have Hadd := Lib.hid hadd
        have hxi : (X : Int) < 256 := by omega
        have hii : (i : Int) < 200 := by omega
        have hi0 : (0 : Int) ≤ (i : Int) := by omega
        have Hf1 := Lib.hid hf1
        have Hx := Lib.hid hx
        have Hxl := Lib.hid hxl
        clear hadd hsum hX hf1 hn1 hnext
        go_upto_region 7 with (go_at_call 60; (try rw [hx]); refine Hadd.out.mono ?_; rintro r w2 ⟨rfl, h1, h2⟩; have KQ2 := Lib.hid h1; have KF2 := Lib.hid (KF.out.trans h2 (fun k hk => .inr (by have := LQ.out; omega))); have K32 := Lib.hid (h2.keep K3.out (fun e => nq3 e.symm)); have K52 := Lib.hid (h2.keep K5.out (fun e => nq5 e.symm)); clear h1 h2)
        have c5 : w2.cell? ⟨b5, X, none⟩ = some (.bool (Fq.stF G i X)) := (cell_of K52.out X).trans (by unfold boolArr; rw [List.getElem?_toArray]; simp [Hxl.out])
        have f5 := free_of K52.out X
        have hb := block_setCell K52.out (.bool true) (off := X)
        rw [boolArr_add _ _ hxl, ← Hf1.out] at hb
        have hfr : Fr (fun k => k = b5) w2 (w2.setCell ⟨b5, X, none⟩ (.bool true)) := (Fr.refl (fun k => k = b5) w2).setCell ⟨b5, X, none⟩ _ (.inl rfl)
        have M5 := Lib.hid hb
        have MQ := Lib.hid (KQ2.out.keep hfr nq5)
        have M3 := Lib.hid (hfr.keep K32.out n35)
        have MF := Lib.hid (KF2.out.trans hfr (fun k hk => .inr (by have := L5.out; omega)))
        clear hb hfr hxl
        have hx0 : (0 : Int) ≤ (X : Int) := by omega
        go_wp2
        go_roundw
        case rel => exact ⟨i + 1, by omega, by omega, by go_num, MF, M3, MQ, M5⟩
        case measure => simp [intOf]; omega
      · have hN : min s.size 200 = i := by omega
        rw [← hN] at KQ K5
        by_cases hl : i < s.size
        · have hl' : decide (i < s.size) = true := by simpa using hl
          have h80 : decide ((i : Int) < 200) = false := by simp; omega
          clear hlt hN hi hi2 hl
          go_wp2
          go_meet
          exact ⟨KF, K3, KQ, K5⟩
        · have hl' : decide (i < s.size) = false := by simpa using hl
          clear hlt hN hi hi2 hl
          go_wp2
          go_meet
          exact ⟨KF, K3, KQ, K5⟩
  case rest =>
    obtain ⟨KF, K3, KQ, K5⟩ := hcut
    obtain ⟨F, hF⟩ : ∃ F, Fq.stF G (min s.size 200) = F := ⟨_, rfl⟩
    rw [hF] at KQ K5
    have HFe := Lib.hid hF
    clear hF
    have hlen : ∀ f, (boolArr f).toList.length = 256 := fun f => by simp [boolArr]
    have hall : ∀ f, ∀ v ∈ (boolArr f).toList, v.oneCell' = true := fun f v hv => by
      simp only [boolArr, List.mem_map] at hv
      obtain ⟨i, _, rfl⟩ := hv
      rfl
    have r5 : wc.rangeAt b5 0 (boolArr F).toList := by
      have h := World.rangeAt_of_block K5.out 0 256
      rwa [show (boolArr F).extract 0 (0 + 256) = boolArr F by rw [show 0 + 256 = (boolArr F).size by rw [boolArr_size]]; exact Array.extract_size] at h
    have t3 : wc.there b3 0 256 := fun j hj => ⟨by rw [Nat.zero_add, cell_of K3.out j]; unfold boolArr; rw [List.getElem?_toArray]; simp [hj], free_of K3.out _⟩
    obtain ⟨cs, hcs⟩ : ∃ cs, (boolArr F).toList = cs := ⟨_, rfl⟩
    have hbF : boolArr F = cs.toArray := by rw [← hcs]
    have hlen := hlen F
    have hall := hall F
    rw [hcs] at r5 hlen hall
    have HbF := Lib.hid hbF
    clear hbF hcs
    have hu := Try.underlying100
    have hi : (Try.prog.info? 100).map (·.size) = some cs.length := by rw [hlen]; kernel_rfl
    go_upto_region 8 with fail
    go_region_held3 (fun w' => w'.rangeAt b5 0 cs ∧ w'.there b3 0 256) (go_keep_ranges) (fail)
    have hload := run_loadVar_mid (P := Try.prog) (wc.drew.setCells b3 0 cs) b3 0 100 cs _ (World.rangeAt_setCells_same _ _ _ _ (by rw [hlen, World.there_drew]; exact t3)) hu rfl hi
    have hfr : Fr (fun k => k = b3) wc (wc.drew.setCells b3 0 cs) := (Fr.refl _ _).drew.trans (fr_setCells (S := fun k => k = b3) b3 rfl cs 0 _) (fun _ h => .inl h)
    have MQ := Lib.hid (KQ.out.keep hfr nq3)
    have MF := Lib.hid (KF.out.trans hfr (fun k hk => .inr (by have := L3.out; omega)))
    clear hi hu r5 t3 hfr
    go_wp2
    refine bodyPost_ret (results_tmp_cell Try.results53 rfl rfl hload) rfl ?_
    rw [HFe.out]
    exact ⟨q, by rw [HbF.out]; rfl, LQ.out, MQ.out, MF.out⟩
end Go.Proofs.Ytpddocehjljofaa
