/- The document's trees (cassoneref04): new ones, a number's bits. -/
import Derived.Test.YtpddocehjljofaaRef3
import Derived.Test.YtpddocehjljofaaRcL
import Derived.Laws.BitsLemmas
namespace Go.Proofs.Ytpddocehjljofaa
set_option linter.unusedVariables false
open Go.RowKit Go.My

/-- Numbers of 64 bits as cells. -/
def c64 (ps : List Nat) : List Value := ps.map fun (x : Nat) => Value.int .u64 (x : Int)
theorem c64_len (ps : List Nat) : (c64 ps).length = ps.length := by simp [c64]
theorem c64_set (ps : List Nat) (k y : Nat) : (c64 ps).set k (.int .u64 (y : Int)) = c64 (ps.set k y) := by simp [c64, List.map_set]
theorem c64_get {ps : List Nat} {k : Nat} (h : k < ps.length) : (c64 ps)[k]? = some (.int .u64 ((ps.getD k 0 : Nat) : Int)) := by
  simp [c64, List.getD, List.getElem?_eq_getElem h]

theorem info_u64 : (Try.prog.info? 27).map (fun i => (i.zero, i.size, i.bytes)) = some (some (.int .u64 0), 1, 8) := by kernel_rfl

set_option maxHeartbeats 1000000 in
theorem ref_bitof (x n : Nat) (w : World) (hx : x < 4294967296) (hn : n ≤ 64) :
    Calls Try.prog 74 #[.int .i64 (x : Int), .int .i64 (n : Int)] w fun r w' => r = .returned (.int .i64 ((x / 2 ^ n % 2 : Nat) : Int)) ∧ w = w' := by
  have hni : (n : Int) ≤ 64 := by omega
  obtain ⟨Q, hQ⟩ : ∃ Q, x / 2 ^ n % 2 = Q := ⟨_, rfl⟩
  rw [hQ]
  have HQ := Lib.hid hQ
  clear hQ
  go_enter Try.func74, Try.ntmps74
  go_wp2
  go_loop [0, 1] (fun v0 v1 => ∃ (j y : Nat), j ≤ n ∧ v1 = .int .i64 (j : Int) ∧ v0 = .int .i64 (y : Int) ∧ y < 4294967296 ∧ Hid (y / 2 ^ j = x / 2 ^ n)) (fun _ v1 => (intOf v1).toNat)
  case atStart => exact ⟨n, x, Nat.le_refl _, rfl, rfl, hx, rfl⟩
  case round =>
    obtain ⟨j, y, hj, rfl, rfl, hy, H⟩ := hrel
    have hyi : (y : Int) < 4294967296 := by omega
    have hy0 : (0 : Int) ≤ (y : Int) := by omega
    rcases j with _ | j
    · have hfin : (Q : Int) = (y : Int) % 2 := by rw [← HQ.out, ← H.out]; simp
      have Hfin := Lib.hid hfin
      clear hfin
      go_wp2
      go_ret
      exact ⟨by rw [Hfin.out]; rfl, rfl⟩
    · have hji : (j : Int) ≤ 64 := by omega
      have Hn : Hid (y / 2 / 2 ^ j = x / 2 ^ n) := by
        show _ = _
        rw [← H.out, Nat.pow_succ, Nat.mul_comm, Nat.div_div_eq_div_mul]
      clear H
      go_wp2
      go_round
      case rel => exact ⟨j, y / 2, by omega, by go_num, by simp, by omega, Hn⟩
      case measure => simp [intOf]

/-- The document's tree in a row. -/
def RtAt (w : World) (g n cap : Nat) (U : List Nat) : Prop := w.ownsRow 0 27 1 (.slice (some ⟨g, 0, none⟩) n cap) n (c64 U)
theorem RtAt.len {w : World} {g n cap : Nat} {U : List Nat} (h : RtAt w g n cap U) : U.length = n := by
  have := h.1
  rw [c64_len] at this
  omega
theorem RtAt.get {w : World} {g n cap : Nat} {U : List Nat} (h : RtAt w g n cap U) {k : Nat} (hk : k < n) : w.cell? ⟨g, k, none⟩ = some (.int .u64 ((U.getD k 0 : Nat) : Int)) := by
  rw [World.ownsRow.cellAt h k (by omega)]
  exact c64_get (by rw [h.len]; exact hk)
theorem RtAt.set {w : World} {g n cap : Nat} {U : List Nat} (h : RtAt w g n cap U) {k : Nat} (y : Nat) : RtAt (w.setCell ⟨g, k, none⟩ (.int .u64 (y : Int))) g n cap (U.set k y) := by
  have := (World.ownsRow.stored h k (.int .u64 (y : Int))).1
  rw [c64_set] at this
  exact this
theorem RtAt.keep {w w' : World} {g n cap : Nat} {U : List Nat} {S : Nat → Prop} (h : RtAt w g n cap U) (hf : Fr S w w') (hs : ¬ S g) : RtAt w' g n cap U :=
  own_keep h hf (fun k hk => by simp [Value.ownBlock] at hk; subst hk; exact hs)
theorem RtAt.ty {w : World} {g n cap : Nat} {U : List Nat} (h : RtAt w g n cap U) : ∃ cur, w.heap[g]? = some (.cells cur 27 (0, 0)) := own_ty h rfl

theorem own_zero {w : World} {B e s n : Nat} {v : Value} {xs : List Value} (h : w.ownsRow B e s v n xs) : w.ownsRow 0 e s v n xs := by
  obtain ⟨h1, h2 | ⟨g, cap, cur, a1, a2, a3⟩⟩ := h
  · exact ⟨h1, .inl h2⟩
  · exact ⟨h1, .inr ⟨g, cap, cur, a1, Nat.zero_le _, a3⟩⟩

set_option maxHeartbeats 2000000 in
set_option maxRecDepth 10000 in
theorem ref_tree_new (n : Nat) (w : World) (hn1 : 1 ≤ n) (hn : n ≤ 1000000) :
    Calls Try.prog 38 #[.int .i64 (n : Int)] w fun r w' => ∃ g cap, r = .returned (.slice (some ⟨g, 0, none⟩) n cap) ∧ RtAt w' g n cap (List.replicate n 1024) ∧ Fr (fun _ => False) w w' ∧ w.heap.size ≤ g := by
  obtain ⟨i0, hi, hz0, hz1, hz2⟩ := info_parts info_u64
  have Hi := Lib.hid hi
  have Hz0 := Lib.hid hz0
  have Hz1 := Lib.hid hz1
  have Hz2 := Lib.hid hz2
  have hni : (n : Int) ≤ 1000000 := by omega
  clear hi hz0 hz1 hz2
  go_enter Try.func38, Try.ntmps38
  go_wp2
  go_loopw [3, 4] (fun v3 v4 wr => ∃ (i : Nat), i ≤ n ∧ v4 = .int .i64 (i : Int) ∧ Hid (wr.ownsRow w.heap.size 27 1 v3 i (c64 (List.replicate i 1024))) ∧ Hid (Fr (fun _ => False) w wr)) (fun _ v4 _ => n - (intOf v4).toNat)
  case atStart => exact ⟨0, Nat.zero_le _, rfl, ⟨rfl, .inl ⟨rfl, rfl⟩⟩, Fr.refl _ _⟩
  case round =>
    obtain ⟨i, hi, rfl, HO, HF⟩ := hrel
    by_cases hlt : i < n
    · have hii : (i : Int) < (n : Int) := by omega
      have hb1 : i + 1 ≤ maxLen := by unfold maxLen; omega
      have hb2 : (i + 1) * 8 ≤ 140737488355328 := by omega
      obtain ⟨av, cv, hv⟩ := own_any HO.out
      have hnew := heap_alloc_new wr (.cells #[.int .u64 1024] 27)
      have hcn : ∀ (j : Nat) u, ([Value.int .u64 1024])[j]? = some u → (wr.alloc (.cells #[.int .u64 1024] 27)).cell? ((⟨wr.heap.size, 0, none⟩ : Addr).add j) = some u := by
        intro j u hj
        rcases j with _ | j
        · simp at hj
          subst hj
          show (wr.alloc (.cells #[.int .u64 1024] 27)).cell? ⟨wr.heap.size, 0 + 0, none⟩ = _
          exact (cell_of hnew 0).trans rfl
        · simp at hj
      have Hcn := Lib.hid hcn
      have Hz := Lib.hid HF.out.size
      clear hcn hnew
      go_wp2_with (at_builtin; refine wpList_append_my _ rfl _ _ 71 rfl w.heap.size 27 i0 (.int .u64 0) 1 8 Try.underlying71 Hi.out Hz0.out Hz1.out Hz2.out rfl (by decide) _ i (c64 (List.replicate i 1024)) (by rfl) (HO.out.alloc _) ⟨wr.heap.size, 0, none⟩ 1 1 [.int .u64 1024] (by rfl) (by simp) Hcn.out (by simp [Value.oneCell']) (by decide) hb1 hb2 (by have := Hz.out; simp; omega) (wr.heap.size + 1) (by simp) ?_; intro g cap2 w1 hown1 hgrow hat hlt2 hsame; have Hown := Lib.hid hown1; have hF1 := Lib.hid ((HF.out.alloc (.cells #[.int .u64 1024] 27)).grown hgrow (fun k hk => .inr (own_base HO.out hk))); clear hown1 hgrow hat hlt2 hsame)
      go_roundw
      case rel =>
        refine ⟨i + 1, by omega, by go_num, ?_, hF1.out⟩
        have h := Hown.out
        rw [show c64 (List.replicate i 1024) ++ [Value.int .u64 1024] = c64 (List.replicate (i + 1) 1024) by rw [List.replicate_succ']; simp [c64]] at h
        exact h
      case measure => simp [intOf]; omega
    · obtain rfl : i = n := by omega
      obtain ⟨g, cap, rfl⟩ := own_slice HO.out (by omega)
      have hg := own_base HO.out (g := g) rfl
      have Hg := Lib.hid hg
      clear hg
      go_wp2
      go_ret
      exact ⟨g, cap, rfl, own_zero HO.out, HF.out, Hg.out⟩
end Go.Proofs.Ytpddocehjljofaa
