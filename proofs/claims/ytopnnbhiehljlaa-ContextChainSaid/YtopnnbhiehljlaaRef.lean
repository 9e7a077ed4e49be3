/- Walks of the reference of layer 3 (rc): the encoder. -/
import Derived.Test.YtopnnbhiehljlaaEnc4
import Derived.Laws.OwnMore
import Derived.Deep.CutBlock
namespace Go.Rc
set_option linter.unusedVariables false

theorem add_step (L D : List UInt8) (j n n0 : Nat) (x : UInt8) (hj : L[j]? = some x) (hD : D.length = L.length - (j + 1)) (h : val D + n * 256 ^ D.length = val (L.drop (j + 1)) + n0) :
    val (UInt8.ofNat ((x.toNat + n % 256) % 256) :: D) + (n / 256 + (x.toNat + n % 256) / 256) * 256 ^ (D.length + 1) = val (L.drop j) + n0 := by
  have hlt := (List.getElem?_eq_some_iff.1 hj).1
  have he := (List.getElem?_eq_some_iff.1 hj).2
  rw [List.drop_eq_getElem_cons hlt, he, val_cons, val_cons, List.length_drop, ← hD, Nat.pow_succ]
  generalize 256 ^ D.length = P at *
  have e1 : (UInt8.ofNat ((x.toNat + n % 256) % 256)).toNat = (x.toNat + n % 256) % 256 := by simp
  rw [e1]
  have key : (x.toNat + n % 256) % 256 + (n / 256 + (x.toNat + n % 256) / 256) * 256 = x.toNat + n := by omega
  have k2 : ((x.toNat + n % 256) % 256 + (n / 256 + (x.toNat + n % 256) / 256) * 256) * P = (x.toNat + n) * P := by rw [key]
  rw [Nat.add_mul, Nat.add_mul x.toNat, Nat.mul_assoc, Nat.mul_comm 256 P] at k2
  omega
end Go.Rc
namespace Go.Proofs.Ytopnnbhiehljlaa
open Go.RowKit Go.My

theorem set_bytes (L D : List UInt8) (j : Nat) (x y : UInt8) (hj : L[j]? = some x) : (bytesV (L.take (j + 1) ++ D)).set j (.int .u8 (y.toNat : Int)) = bytesV (L.take j ++ y :: D) := by
  have hlt := (List.getElem?_eq_some_iff.1 hj).1
  rw [List.take_succ_eq_append_getElem hlt]
  unfold bytesV
  simp only [List.map_append, List.map_cons, List.map_nil, List.append_assoc]
  rw [List.set_append_right _ _ (by simp; omega)]
  simp [Nat.min_eq_left (Nat.le_of_lt hlt)]

set_option maxHeartbeats 2000000 in
set_option maxRecDepth 100000 in
theorem ref_add (a : Option Addr) (cap : Nat) (L : List UInt8) (n : Nat) (w : World) (h : w.ownsRow 0 5 1 (.slice a L.length cap) L.length (bytesV L)) (hl : 0 < L.length) (hl2 : L.length ≤ 1000000000) (hn : n ≤ 1099511627776) :
    Calls Try.prog 68 #[.slice a L.length cap, .int .u64 (n : Int)] w fun r w' => ∃ (v : Value) (X : List UInt8), r = .returned v ∧ w'.ownsRow 0 5 1 v X.length (bytesV X) ∧ X.length = L.length ∧ Rc.val X = (Rc.val L + n) % 256 ^ L.length ∧ Fr (fun _ => False) w w' ∧ (∀ g, v.ownBlock = some g → w.heap.size ≤ g) := by
  obtain ⟨i0, hi, hz0, hz1, hz2⟩ := info_parts info5
  obtain ⟨g0, cap0, hv⟩ := own_slice h hl
  obtain ⟨rfl, rfl⟩ : a = some ⟨g0, 0, none⟩ ∧ cap = cap0 := by injection hv with h1 h2 h3; exact ⟨h1, h3⟩
  have hg0 : g0 < w.heap.size := by obtain ⟨cur, hc⟩ := own_ty h (g := g0) rfl; exact lt_of_block hc
  have H := Lib.hid h
  have Hi := Lib.hid hi
  have Hz0 := Lib.hid hz0
  have Hz1 := Lib.hid hz1
  have Hz2 := Lib.hid hz2
  have Hl := Lib.hid hl
  have Hl2 := Lib.hid hl2
  have Hn := Lib.hid hn
  clear hv h hi hz0 hz1 hz2
  have hb1 : 0 + L.length ≤ maxLen := by unfold maxLen; omega
  have hb2 : (0 + L.length) * 1 ≤ 140737488355328 := by omega
  clear hn
  go_enter Try.func68, Try.ntmps68
  go_wp2_with (at_builtin; refine wpList_append_my _ rfl _ _ 39 rfl 0 5 i0 (.int .u8 0) 1 1 Try.underlying39 Hi.out Hz0.out Hz1.out Hz2.out rfl (by decide) (.slice (some ⟨w.heap.size, 0, none⟩) 0 0) 0 [] (by rfl) (World.ownsRow_made w #[] 0 (Nat.zero_le _) (by decide) (by simp)) ⟨g0, 0, none⟩ L.length cap (bytesV L) (by rfl) (by simp [bytesV]) (H.out.alloc _ |>.cells (g := g0) rfl) (by simp [bytesV, Value.oneCell']) Hl.out hb1 hb2 (by simp) (w.heap.size + 1) (by simp) ?_; intro g cap2 w1 hown1 hgrow hat hlt2 hsame; have Hown := Lib.hid hown1; have hF1 : Fr (fun _ => False) w w1 := ((Fr.refl _ _).alloc _).grown hgrow (fun k hk => .inr (by simp [Value.ownBlock] at hk; omega)); have hat2 : w.heap.size ≤ g := (by rcases hat with h | h; (simp [Value.ownBlock] at h; omega); omega); have Hat := Lib.hid hat2; have HF1 := Lib.hid hF1; simp only [Nat.zero_add, List.nil_append] at Hown; clear hown1 hgrow hat hat2 hlt2 hsame hF1)
  clear hb1 hb2 hl hl2
  go_loopw [1, 6] (fun v1 v6 wr => ∃ (i : Int) (j m : Nat) (D : List UInt8), i + 1 = j ∧ j ≤ L.length ∧ v6 = .int .i64 i ∧ v1 = .int .u64 (m : Int) ∧ Hid (m ≤ 1099511627776) ∧ Hid (D.length = L.length - j) ∧ Hid (Rc.val D + m * 256 ^ D.length = Rc.val (L.drop j) + n) ∧
    Hid (wr.ownsRow 0 5 1 (.slice (some ⟨g, 0, none⟩) L.length cap2) L.length (bytesV (L.take j ++ D))) ∧ Hid (Fr (fun _ => False) w wr)) (fun _ v6 _ => (intOf v6 + 1).toNat)
  case atStart =>
    refine ⟨_, L.length, n, [], by omega, Nat.le_refl _, rfl, rfl, Hn.out, by show _ = _; simp, by show _ = _; simp [Rc.val], ?_, HF1.out⟩
    rw [List.take_length, List.append_nil]
    exact Hown.out
  case round =>
    obtain ⟨i, j, m, D, hij, hj, rfl, rfl, hm, hD, hv, HO, HF⟩ := hrel
    clear Hown HF1
    have hL9 := Hl2.out
    rcases j with _ | j
    · obtain rfl : i = -1 := by omega
      clear hij hL9
      go_wp2
      go_ret
      refine ⟨_, D, rfl, ?_, ?_, ?_, HF.out, fun g' hg' => by simp [Value.ownBlock] at hg'; rw [← hg']; exact Hat.out⟩
      · have := HO.out
        simp only [List.take_zero, List.nil_append] at this
        rw [hD.out]
        exact this
      · exact hD.out
      · have h1 := hv.out
        have h2 := Rc.val_lt D
        rw [List.drop_zero] at h1
        rw [← h1, show D.length = L.length from hD.out, Nat.add_mul_mod_self_right, Nat.mod_eq_of_lt (by rw [← show D.length = L.length from hD.out]; exact h2)]
    · obtain rfl : i = (j : Int) := by omega
      have hjl : j < L.length := by omega
      obtain ⟨x, hx⟩ : ∃ x, L[j]? = some x := ⟨_, List.getElem?_eq_getElem hjl⟩
      have hget : (L.take (j + 1) ++ D).getD j 0 = x := by
        rw [List.getD_eq_getElem?_getD, List.getElem?_append_left (by simp; omega), List.getElem?_take_of_lt (by omega), hx]; rfl
      have hlenO : (L.take (j + 1) ++ D).length = L.length := by have := hD.out; simp; omega
      have hcell : wr.cell? ⟨g, j, none⟩ = some (.int .u8 (x.toNat : Int)) := by
        have h := HO.out.cellAt j (by omega)
        rw [h]
        unfold bytesV
        rw [List.getElem?_map, List.getElem?_append_left (by simp; omega), List.getElem?_take_of_lt (by omega), hx]; rfl
      have hfz := HO.out.frozenAt j
      have hx256 : (x.toNat : Int) < 256 := by have := x.toNat_lt; omega
      have hstep := Rc.add_step L D j m n x hx (by have := hD.out; exact this) hv.out
      have hst := HO.out.stored j (.int .u8 ((UInt8.ofNat ((x.toNat + m % 256) % 256)).toNat : Int))
      rw [set_bytes L D j x _ hx] at hst
      have hy : (((UInt8.ofNat ((x.toNat + m % 256) % 256)).toNat : Nat) : Int) = ((x.toNat : Int) + (m : Int)) % 256 := by simp
      rw [hy] at hst
      obtain ⟨y, hyy⟩ : ∃ y, UInt8.ofNat ((x.toNat + m % 256) % 256) = y := ⟨_, rfl⟩
      rw [hyy] at hst hstep
      obtain ⟨B, hB⟩ : ∃ B : Int, (x.toNat : Int) = B := ⟨_, rfl⟩
      have hB0 : 0 ≤ B := by omega
      rw [hB] at hcell hst hx256
      have hm2 : (m : Int) ≤ 1099511627776 := by have := hm.out; omega
      have hnew : ((m / 256 + (x.toNat + m % 256) / 256 : Nat) : Int) = (m : Int) / 256 + (B + (m : Int) % 256) / 256 := by rw [← hB]; simp
      have hnb : m / 256 + (x.toNat + m % 256) / 256 ≤ 1099511627776 := by have := hm.out; have := x.toNat_lt; omega
      obtain ⟨m', hm'⟩ : ∃ m', m / 256 + (x.toNat + m % 256) / 256 = m' := ⟨_, rfl⟩
      rw [hm'] at hstep hnew hnb
      have Hst := Lib.hid hst
      have Hstep := Lib.hid hstep
      have Hnew := Lib.hid hnew
      have Hnb := Lib.hid hnb
      have hD' : Hid ((y :: D).length = L.length - j) := by show _ = _; have := hD.out; simp; omega
      have hjL : (j : Int) < (L.length : Int) := by omega
      have hLi : (L.length : Int) ≤ 1000000000 := by omega
      clear hst hstep hnew hnb hx hget hlenO hy hyy hB hm' hij hL9 hv
      go_wp2
      go_roundw
      case rel => exact ⟨_, j, m', y :: D, by omega, by omega, rfl, by rw [Hnew.out], Hnb.out, hD', Hstep.out, Hst.out.1, HF.out.setCell _ _ (.inr Hat.out)⟩
      case measure => simp [intOf]

/-- The document's encoder: a value whose bytes lie in memory. -/
structure RefV (w : World) (v : Value) (L : List UInt8) (S : Nat) (r : Value) : Prop where
  own : w.ownsRow 0 5 1 v L.length (bytesV L)
  val : r = .agg #[v, .int .u64 (S : Int)]
theorem RefV.keep {w w' : World} {v r : Value} {L : List UInt8} {S : Nat} (h : RefV w v L S r) (hf : Fr (fun _ => False) w w') : RefV w' v L S r := ⟨own_keep h.own hf (fun _ _ h => h), h.val⟩

theorem own_snoc {w1 : World} {L : List UInt8} (g cap n : Nat) (hn : n = L.length + 1) (h : w1.ownsRow 0 5 1 (.slice (some ⟨g, 0, none⟩) n cap) n (bytesV L ++ [.int .u8 0])) : w1.ownsRow 0 5 1 (.slice (some ⟨g, 0, none⟩) n cap) (L ++ [0]).length (bytesV (L ++ [0])) := by
  subst hn
  rw [bytesV_append]
  simpa [bytesV] using h

theorem grown_keep {W w1 : World} {B n s e : Nat} {v : Value} {xs : List Value} (hgr : W.grownBy w1 v.ownBlock) (ho : W.ownsRow B e s v n xs) {k : Nat} {cs : Array Value} {t : TypeId} {fr : Nat × Nat} (hk : W.heap[k]? = some (.cells cs t fr)) (ht : t ≠ e) : w1.heap[k]? = some (.cells cs t fr) := by
  refine (hgr.block k (lt_of_block hk) ?_).trans hk
  intro he
  obtain ⟨cur, hc⟩ := own_ty ho he.symm
  exact ne_of_ty hk hc ht rfl
theorem Lwiden_len (n : Nat) (L : List UInt8) (S : Nat) : (Rc.Lwiden n (L, S)).1.length ≤ L.length + n ∧ L.length ≤ (Rc.Lwiden n (L, S)).1.length := by
  induction n generalizing L S with
  | zero => exact ⟨Nat.le_refl _, Nat.le_refl _⟩
  | succ n ih =>
    unfold Rc.Lwiden
    split
    · have := ih (L ++ [0]) (S * 256); simp at this; omega
    · exact ⟨by dsimp only; omega, Nat.le_refl _⟩

set_option maxHeartbeats 4000000 in
set_option maxRecDepth 100000 in
theorem ref_widen (a : Option Addr) (cap : Nat) (L : List UInt8) (S : Nat) (w : World) (h : w.ownsRow 0 5 1 (.slice a L.length cap) L.length (bytesV L)) (hl : 0 < L.length) (hl2 : L.length ≤ 900000000) (h1 : 1 ≤ S) (h2 : S < 4294967296) :
    Calls Try.prog 69 #[.agg #[.slice a L.length cap, .int .u64 (S : Int)]] w fun r w' => ∃ (v x : Value), r = .returned x ∧ RefV w' v (Rc.Lwiden 3 (L, S)).1 (Rc.Lwiden 3 (L, S)).2 x ∧ Fr (fun _ => False) w w' ∧ (∀ g, v.ownBlock = some g → (Value.slice a L.length cap).ownBlock = some g ∨ w.heap.size ≤ g) := by
  obtain ⟨i0, hi, hz0, hz1, hz2⟩ := info_parts info5
  have H := Lib.hid h
  have Hi := Lib.hid hi
  have Hz0 := Lib.hid hz0
  have Hz1 := Lib.hid hz1
  have Hz2 := Lib.hid hz2
  have Hl := Lib.hid hl
  have Hl2 := Lib.hid hl2
  have H1 := Lib.hid h1
  have H2 := Lib.hid h2
  clear h hi hz0 hz1 hz2 hl hl2 h1 h2
  go_enter Try.func69, Try.ntmps69
  go_wp2
  go_loopg [] 3 (fun n wr => ∃ (L' : List UInt8) (S' : Nat) (v' : Value), n ≤ 3 ∧ Hid (Rc.Lwiden n (L', S') = Rc.Lwiden 3 (L, S)) ∧ Hid (1 ≤ S' ∧ S' < 4294967296 ∧ 16777216 ≤ S' * 256 ^ n) ∧ Hid (0 < L'.length ∧ L'.length ≤ 900000003 - n) ∧
    Hid (wr.heap[w.heap.size]? = some (.cells #[v', .int .u64 (S' : Int)] 81 (0, 0))) ∧ Hid (wr.heap[w.heap.size + 1]? = some (.cells #[.slice none 0 0, .int .u64 0] 81 (0, 0))) ∧ Hid (wr.ownsRow 0 5 1 v' L'.length (bytesV L')) ∧ Hid (Fr (fun _ => False) w wr) ∧ Hid (∀ g, v'.ownBlock = some g → (Value.slice a L.length cap).ownBlock = some g ∨ w.heap.size ≤ g))
  case atStart =>
    refine ⟨L, S, .slice a L.length cap, Nat.le_refl _, rfl, ⟨H1.out, H2.out, by have := H1.out; omega⟩, ⟨Hl.out, by have := Hl2.out; omega⟩, block_alloc (heap_alloc_new w _), ?_, ?_, ((Fr.refl _ _).alloc _).alloc _, fun _ h => .inl h⟩
    · have h := heap_alloc_new (w.alloc (.cells #[.slice a L.length cap, .int .u64 (S : Int)] 81)) (.cells #[.slice none 0 0, .int .u64 0] 81)
      rw [show (w.alloc (.cells #[.slice a L.length cap, .int .u64 (S : Int)] 81)).heap.size = w.heap.size + 1 by simp] at h
      exact h
    · exact (H.out.alloc _).alloc _
  case round =>
    obtain ⟨L', S', v', hn, hw, hS, hL, HB, HR, HO, HF, HP⟩ := hrel
    clear H H1 H2 Hl Hl2
    have d0 : wr.cell? ⟨w.heap.size, 0, none⟩ = some v' := (cell_of HB.out 0).trans rfl
    have d1 : wr.cell? ⟨w.heap.size, 1, none⟩ = some (.int .u64 (S' : Int)) := (cell_of HB.out 1).trans rfl
    have f1 := free_of HB.out 1
    have f0 := free_of HB.out 0
    obtain ⟨a', cap', rfl⟩ := own_any HO.out
    by_cases hlt : S' < 16777216
    · obtain ⟨m, rfl⟩ : ∃ m, gk = m + 1 := ⟨gk - 1, by
        have := hS.out.2.2
        rcases gk with _ | m
        · simp at this; omega
        · rfl⟩
      obtain ⟨g0, cap0, hv⟩ := own_slice HO.out hL.out.1
      obtain ⟨rfl, rfl⟩ : a' = some ⟨g0, 0, none⟩ ∧ cap' = cap0 := by injection hv with h1 h2 h3; exact ⟨h1, h3⟩
      clear hv
      have hw' : Hid (Rc.Lwiden m (L' ++ [0], S' * 256) = Rc.Lwiden 3 (L, S)) := by
        have := hw.out
        rw [Rc.Lwiden, if_pos hlt] at this
        exact this
      have hS' : Hid (1 ≤ S' * 256 ∧ S' * 256 < 4294967296 ∧ 16777216 ≤ S' * 256 * 256 ^ m) := by
        obtain ⟨q1, q2, q3⟩ := hS.out
        refine ⟨by omega, by omega, ?_⟩
        rw [Nat.pow_succ, Nat.mul_comm (256 ^ m), ← Nat.mul_assoc] at q3
        exact q3
      have hL' : Hid (0 < (L' ++ [0]).length ∧ (L' ++ [0]).length ≤ 900000003 - m) := by
        have := hL.out
        refine ⟨by simp, ?_⟩
        simp; omega
      have hlt' : decide ((S' : Int) < 16777216) = true := by simp; omega
      have hwr : IntKind.u64.wrap ((S' : Int) * 256) = (S' : Int) * 256 := IntWalk.u64_in _ (by omega)
      obtain ⟨W, hW⟩ : ∃ W, wr.setCell ⟨w.heap.size, 1, none⟩ (.int .u64 ((S' : Int) * 256)) = W := ⟨_, rfl⟩
      have HBW : W.heap[w.heap.size]? = some (.cells #[.slice (some ⟨g0, 0, none⟩) L'.length cap', .int .u64 ((S' : Int) * 256)] 81 (0, 0)) := by rw [← hW]; simpa using block_setCell HB.out (off := 1) (.int .u64 ((S' : Int) * 256))
      have HRW : W.heap[w.heap.size + 1]? = some (.cells #[.slice none 0 0, .int .u64 0] 81 (0, 0)) := by rw [← hW]; exact block_setCell_other HR.out (by omega) _
      have HOW : W.ownsRow 0 5 1 (.slice (some ⟨g0, 0, none⟩) L'.length cap') L'.length (bytesV L') := by
        rw [← hW]
        refine own_same HO.out fun k hk => Below.heap_setCell _ _ _ _ ?_
        obtain ⟨cur, hc⟩ := own_ty HO.out hk
        exact ne_of_ty hc HB.out (by decide)
      have HFW : Fr (fun _ => False) w W := by rw [← hW]; exact HF.out.setCell _ _ (.inr (Nat.le_refl _))
      have hWs : w.heap.size < W.heap.size := lt_of_block HBW
      have Hb := Lib.hid HBW
      have Hr := Lib.hid HRW
      have Ho := Lib.hid HOW
      have Hf := Lib.hid HFW
      have HW := Lib.hid hW
      have hl1 : 0 + L'.length ≤ maxLen := by have := hL.out; unfold maxLen; omega
      have hl2 : (0 + L'.length) * 1 ≤ 140737488355328 := by have := hL.out; omega
      have hl3 : L'.length + 1 ≤ maxLen := by have := hL.out; unfold maxLen; omega
      have hl4 : (L'.length + 1) * 1 ≤ 140737488355328 := by have := hL.out; omega
      have hl5 : (L'.length : Int) ≤ 900000003 := by have := hL.out; omega
      have hl0 := Lib.hid hL.out.1
      have c0 : W.cell? ⟨w.heap.size, 0, none⟩ = some (.slice (some ⟨g0, 0, none⟩) L'.length cap') := (cell_of HBW 0).trans rfl
      clear HBW HRW HOW HFW hW hlt hw hS hL HR HO HF
      go_upto_region 3 with fail
      rw [HW.out]
      clear d0 d1 f0 f1 HB hwr hlt'
      go_wp2_with (first | (at_builtin; refine wpList_append_my _ rfl (.tmp 10) (.tmp 12) 39 rfl 0 5 i0 (.int .u8 0) 1 1 Try.underlying39 Hi.out Hz0.out Hz1.out Hz2.out rfl (by decide) (.slice (some ⟨W.heap.size, 0, none⟩) 0 0) 0 [] (by rfl) (World.ownsRow_made W #[] 0 (Nat.zero_le _) (by decide) (by simp)) ⟨g0, 0, none⟩ L'.length cap' (bytesV L') (by rfl) (by simp [bytesV]) (Ho.out.alloc _ |>.cells (g := g0) rfl) (by simp [bytesV, Value.oneCell']) hl0.out hl1 hl2 (by simp) (W.heap.size + 1) (by simp) ?_; intro g cap2 w1 hown1 hgrow hat hlt2 hsame; have HO1 := Lib.hid hown1; simp only [Nat.zero_add, List.nil_append] at HO1; have HF1 : Hid (Fr (fun _ => False) w w1) := ((Hf.out.alloc _).grown hgrow (fun k hk => .inr (by simp [Value.ownBlock] at hk; omega))); have HB1 := Lib.hid (grown_keep hgrow (World.ownsRow_made (e := 5) (size := 1) (base := 0) W #[] 0 (Nat.zero_le _) (by decide) (by simp)) (block_alloc Hb.out) (by decide)); have HR1 := Lib.hid (grown_keep hgrow (World.ownsRow_made (e := 5) (size := 1) (base := 0) W #[] 0 (Nat.zero_le _) (by decide) (by simp)) (block_alloc Hr.out) (by decide)); have Hg : Hid (w.heap.size ≤ g) := (by rcases hat with h | h; (simp [Value.ownBlock] at h; show _ ≤ _; omega); (show _ ≤ _; omega)); clear hown1 hgrow hat hlt2 hsame) | (at_builtin; refine wpList_append_my _ rfl (.tmp 13) (.tmp 14) 39 rfl 0 5 i0 (.int .u8 0) 1 1 Try.underlying39 Hi.out Hz0.out Hz1.out Hz2.out rfl (by decide) (.slice (some ⟨g, 0, none⟩) L'.length cap2) L'.length (bytesV L') (by rfl) (HO1.out.alloc _) ⟨w1.heap.size, 0, none⟩ 1 1 [.int .u8 0] (by rfl) (by rfl) (World.news_of_block (cs := #[.int .u8 0]) (t := 5) (fr := (0, 0)) (heap_alloc_new w1 _)) (by simp [Value.oneCell']) (by omega) hl3 hl4 (by simp) (w1.heap.size + 1) (by simp) ?_; intro g2 cap3 w2 hown1 hgrow hat hlt2 hsame; have HO2 := Lib.hid (own_snoc g2 cap3 _ rfl hown1); have HF2 : Hid (Fr (fun _ => False) w w2) := ((HF1.out.alloc _).grown hgrow (fun k hk => .inr (by have := Hg.out; simp [Value.ownBlock] at hk; omega))); have HB2 := Lib.hid (grown_keep hgrow (HO1.out.alloc _) (block_alloc HB1.out) (by decide)); have HR2 := Lib.hid (grown_keep hgrow (HO1.out.alloc _) (block_alloc HR1.out) (by decide)); have e0 : w2.cell? ⟨w.heap.size, 0, none⟩ = some (.slice (some ⟨g0, 0, none⟩) L'.length cap') := (cell_of HB2.out 0).trans rfl; have f0 := free_of HB2.out 0; have Hg2 : Hid (w.heap.size ≤ g2) := (by have h9 := Hg.out; have h8 := HF1.out.size; rcases hat with h | h; (simp [Value.ownBlock] at h; show _ ≤ _; omega); (show _ ≤ _; omega)); clear hown1 hgrow hat hlt2 hsame))
      go_roundg m
      case rel =>
        refine ⟨L' ++ [0], S' * 256, .slice (some ⟨g2, 0, none⟩) (L'.length + 1) cap3, by omega, hw', hS', hL', ?_, ?_, ?_, HF2.out.setCell _ _ (.inr (Nat.le_refl _)), fun g' hg' => by simp [Value.ownBlock] at hg'; rw [← hg']; exact .inr Hg2.out⟩
        · have := block_setCell HB2.out (off := 0) (.slice (some ⟨g2, 0, none⟩) (L'.length + 1) cap3)
          show _ = _
          rw [this]; simp
        · exact block_setCell_other HR2.out (by omega) _
        · have h := HO2.out
          have he : (L' ++ [(0 : UInt8)]).length = L'.length + 1 := by simp
          rw [he] at h ⊢
          refine own_same h fun k hk => Below.heap_setCell _ _ _ _ ?_
          obtain ⟨cur, hc⟩ := own_ty h hk
          exact ne_of_ty hc HB2.out (by decide)
      case measure => omega
    · have hfin : (L', S') = Rc.Lwiden 3 (L, S) := by
        have := hw.out
        rcases gk with _ | m
        · exact this
        · rw [Rc.Lwiden, if_neg hlt] at this
          exact this
      have Hfin := Lib.hid hfin
      have hlt' : decide ((S' : Int) < 16777216) = false := by simp; omega
      have r0 : wr.cell? ⟨w.heap.size + 1, 0, none⟩ = some (.slice none 0 0) := (cell_of HR.out 0).trans rfl
      have r1 : wr.cell? ⟨w.heap.size + 1, 1, none⟩ = some (.int .u64 0) := (cell_of HR.out 1).trans rfl
      have rf0 := free_of HR.out 0
      have rf1 := free_of HR.out 1
      clear hfin hw hS hlt hL
      go_wp2
      refine bodyPost_ret (v := .agg #[.slice a' L'.length cap', .int .u64 (S' : Int)]) ?_ rfl ?_
      · simp [results, Try.results69, go_sem, r0, r1]
      · refine ⟨_, _, rfl, ⟨?_, by rw [← Hfin.out]⟩, (HF.out.setCell _ _ (.inr (by simp))).setCell _ _ (.inr (by simp)), HP.out⟩
        rw [← Hfin.out]
        refine own_same HO.out fun k hk => ?_
        obtain ⟨cur, hc⟩ := own_ty HO.out hk
        rw [Below.heap_setCell _ _ _ _ (ne_of_ty hc HR.out (by decide)), Below.heap_setCell _ _ _ _ (ne_of_ty hc HR.out (by decide))]
end Go.Proofs.Ytopnnbhiehljlaa
