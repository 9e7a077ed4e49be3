/- Layer 5 (freq): a sign is added to a table. -/
import Derived.Test.YtopnnbhiehljlaaFt
import Derived.Deep.DrawnRows
namespace Go.Fq
/-- So many counts are halved. -/
def halfTo (c : List Nat) (k : Nat) : List Nat := halve (c.take k) ++ c.drop k
theorem halfTo_len (c : List Nat) (k : Nat) : (halfTo c k).length = c.length := by
  unfold halfTo halve
  simp
  omega
theorem halfTo_get (c : List Nat) (k : Nat) (h : k < c.length) : (halfTo c k).getD k 0 = c.getD k 0 := by
  unfold halfTo halve
  rw [List.getD_eq_getElem?_getD, List.getElem?_append_right (by simp; omega)]
  simp [Nat.min_eq_left (Nat.le_of_lt h)]
theorem halfTo_set (c : List Nat) (k : Nat) (h : k < c.length) : (halfTo c k).set k ((c.getD k 0 + 1) / 2) = halfTo c (k + 1) := by
  unfold halfTo halve
  rw [List.set_append_right _ _ (by simp; omega)]
  rw [List.take_succ_eq_append_getElem h, List.map_append, List.append_assoc]
  congr 1
  simp only [List.length_map, List.length_take, Nat.min_eq_left (Nat.le_of_lt h), Nat.sub_self]
  rw [List.drop_eq_getElem_cons h, List.set_cons_zero]
  simp only [List.map_cons, List.map_nil, List.singleton_append, List.getD, List.getElem?_eq_getElem h, Option.getD_some]
theorem halfTo_all (c : List Nat) : halfTo c c.length = halve c := by simp [halfTo]
theorem halfTo_none (c : List Nat) : halfTo c 0 = c := by simp [halfTo, halve]
theorem T.add_keep {t : T} {x : UInt8} (h : t.s.idxOf x < t.s.length) (hc : t.c.length = t.s.length) (hl : t.c.getD (t.s.idxOf x) 0 + 1 ≤ 120) : t.add x = ⟨t.s, t.c.set (t.s.idxOf x) (t.c.getD (t.s.idxOf x) 0 + 1)⟩ := by
  unfold T.add T.more
  dsimp only
  rw [if_pos h]
  rw [if_pos (by rw [getD_set_self _ _ _ (by omega)]; exact hl)]
theorem T.add_half {t : T} {x : UInt8} (h : t.s.idxOf x < t.s.length) (hc : t.c.length = t.s.length) (hl : ¬ t.c.getD (t.s.idxOf x) 0 + 1 ≤ 120) : t.add x = ⟨t.s, halve (t.c.set (t.s.idxOf x) (t.c.getD (t.s.idxOf x) 0 + 1))⟩ := by
  unfold T.add T.more
  dsimp only
  rw [if_pos h]
  rw [if_neg (by rw [getD_set_self _ _ _ (by omega)]; exact hl)]
theorem T.add_new {t : T} {x : UInt8} (h : ¬ t.s.idxOf x < t.s.length) (hc : t.c.length = t.s.length) : t.add x = ⟨t.s ++ [x], (t.c ++ [0]).set t.s.length 1⟩ := by
  have hi : t.s.idxOf x = t.s.length := by have := List.idxOf_le_length (a := x) (l := t.s); omega
  unfold T.add T.more
  dsimp only
  rw [if_neg h, hi]
  have hg : (t.c ++ [0]).getD t.s.length 0 = 0 := by
    rw [List.getD_eq_getElem?_getD, List.getElem?_append_right (by omega), hc]; simp
  rw [if_pos (by rw [getD_set_self _ _ _ (by simp; omega)]; dsimp only; rw [hg]; decide)]
  dsimp only
  rw [hg]
end Go.Fq
namespace Go.Proofs.Ytopnnbhiehljlaa
set_option linter.unusedVariables false
open Go.RowKit Go.My
attribute [local go_sem ↓] Go.wp_at_zero Go.wp_at_succ

/-- A count turns. -/
theorem TabAt.setc {w : World} {p g n cap : Nat} {t : Fq.T} {v1 : Value} (h : TabAt w p t v1 (.slice (some ⟨g, 0, none⟩) n cap)) (hn : n = t.c.length) (i y : Nat) :
    TabAt (w.setCell ⟨g, i, none⟩ (.int .i64 (y : Int))) p ⟨t.s, t.c.set i y⟩ v1 (.slice (some ⟨g, 0, none⟩) n cap) ∧ Fr (tabFoot p v1 (.slice (some ⟨g, 0, none⟩) n cap)) w (w.setCell ⟨g, i, none⟩ (.int .i64 (y : Int))) := by
  subst hn
  obtain ⟨cur, hc⟩ := own_ty h.c (g := g) rfl
  have h1 : p ≠ g := ne_of_ty h.blk hc (by decide)
  have hf : Fr (fun k => k = g) w (w.setCell ⟨g, i, none⟩ (.int .i64 (y : Int))) := (Fr.refl (fun k => k = g) w).setCell ⟨g, i, none⟩ _ (.inl rfl)
  refine ⟨⟨hf.keep h.blk h1, own_keep h.s hf (fun k hk hk2 => ?_), ?_⟩, hf.mono (fun k hk => .inl (.inr (.inr (by rw [hk]; rfl))))⟩
  · obtain ⟨cur2, hc2⟩ := own_ty h.s hk
    subst hk2
    exact ne_of_ty hc2 hc (by decide) rfl
  · have := (World.ownsRow.stored h.c i (.int .i64 (y : Int))).1
    rw [intsV_set] at this
    show World.ownsRow _ 0 3 1 _ (t.c.set i y).length _
    rw [List.length_set]
    exact this

set_option maxHeartbeats 4000000 in
set_option maxRecDepth 10000 in
theorem tab_add_in (p : Nat) (t : Fq.T) (v1 v2 : Value) (x : UInt8) (w : World) (h : TabAt w p t v1 v2) (hOk : t.Ok) (hx : t.s.idxOf x < t.s.length) :
    Calls Try.prog 32 #[.pointer (some ⟨p, 0, none⟩), .int .u8 (x.toNat : Int)] w fun r w' => r = .returned (.tuple #[]) ∧ TabAt w' p (t.add x) v1 v2 ∧ Fr (tabFoot p v1 v2) w w' := by
  have ha := tab_at p t v1 v2 x w h (by have := hOk.size; omega)
  rw [atV_in hx] at ha
  have hcl := hOk.len
  have hsz := hOk.size
  have hpos := hOk.pos (t.s.idxOf x) (by omega)
  obtain ⟨g, cap, hv⟩ := own_slice h.c (by omega)
  subst hv
  obtain ⟨n, hn⟩ : ∃ n, t.c.length = n := ⟨_, rfl⟩
  rw [hn] at h ⊢
  have hkeep := Fq.T.add_keep hx hcl
  have hhalf := Fq.T.add_half hx hcl
  obtain ⟨i, hi⟩ : ∃ i, t.s.idxOf x = i := ⟨_, rfl⟩
  rw [hi] at ha hx hpos hkeep hhalf
  obtain ⟨c, hc⟩ : ∃ c, t.c.getD i 0 = c := ⟨_, rfl⟩
  rw [hc] at hpos hkeep hhalf
  have hset := h.setc hn.symm i (c + 1)
  obtain ⟨c0, c1, f0, f1⟩ := h.cells
  have hown := h.c
  rw [hn] at hown
  have hce : w.cell? ⟨g, i, none⟩ = some (.int .i64 (c : Int)) := by
    rw [World.ownsRow.cellAt hown i (by omega), intsV_get (by omega), hc]
  have hfz := World.ownsRow.frozenAt hown i
  obtain ⟨cur, hty⟩ := own_ty hown (g := g) rfl
  have hpg : p ≠ g := ne_of_ty h.blk hty (by decide)
  have hin : (i : Int) < (n : Int) := by omega
  have hni : (n : Int) ≤ 256 := by omega
  have hci : (c : Int) ≤ 120 := by omega
  have hc1 : (1 : Int) ≤ (c : Int) := by omega
  rw [show (((c + 1 : Nat)) : Int) = (c : Int) + 1 by omega] at hset
  have hbd : ∀ k, (t.c.set i (c + 1)).getD k 0 ≤ 100000 := by
    intro k
    by_cases hki : i = k
    · subst hki
      rw [Fq.getD_set_self _ _ _ (by omega)]; omega
    · rw [Fq.getD_set_ne _ _ _ _ hki]
      by_cases hkl : k < t.c.length
      · have := (hOk.pos k hkl).2; omega
      · rw [List.getD_eq_getElem?_getD, List.getElem?_eq_none (by omega)]; simp
  have Hbd := Lib.hid hbd
  have Ha := Lib.hid ha
  have Hset := Lib.hid hset
  have Hn := Lib.hid hn
  have Hkeep := Lib.hid hkeep
  have Hhalf := Lib.hid hhalf
  clear h ha hcl hsz hpos hn hi hc hset hown hty hkeep hhalf hOk hx hbd
  by_cases hle : c + 1 ≤ 120
  · have hlei : (c : Int) + 1 ≤ 120 := by omega
    rw [Hkeep.out hle]
    clear hle
    go_enter Try.func32, Try.ntmps32
    go_wp2_with (go_at_call 34; refine Ha.out.mono ?_; rintro r w1 ⟨rfl, rfl⟩)
    refine bodyPost_ret (results_none rfl _ _ _) rfl ?_
    exact ⟨rfl, Hset.out.1, Hset.out.2⟩
  · have hlei : ¬ (c : Int) + 1 ≤ 120 := by omega
    rw [Hhalf.out hle]
    clear hle
    obtain ⟨C, hC⟩ : ∃ C, t.c.set i (c + 1) = C := ⟨_, rfl⟩
    have hCl : C.length = n := by rw [← hC, List.length_set]; exact Hn.out
    rw [hC] at Hset Hbd ⊢
    have HCl := Lib.hid hCl
    clear hC hCl
    have hn0 : (0 : Int) ≤ (n : Int) := by omega
    go_enter Try.func32, Try.ntmps32
    go_wp2_with (go_at_call 34; refine Ha.out.mono ?_; rintro r w1 ⟨rfl, rfl⟩)
    have Hst := Hset
    clear hfz hce c0 c1 f0 f1
    go_loopw [60] (fun v60 wr => ∃ k : Nat, k ≤ n ∧ v60 = .int .i64 (k : Int) ∧ Hid (TabAt wr p ⟨t.s, Fq.halfTo C k⟩ v1 (.slice (some ⟨g, 0, none⟩) n cap)) ∧ Hid (Fr (tabFoot p v1 (.slice (some ⟨g, 0, none⟩) n cap)) w wr)) (fun v60 _ => n - (intOf v60).toNat)
    case atStart => exact ⟨0, Nat.zero_le _, rfl, by rw [Fq.halfTo_none]; exact Hst.out.1, Hst.out.2⟩
    case round =>
      obtain ⟨k, hk, rfl, HT, HF⟩ := hrel
      by_cases hlt : k < n
      · have hki : (k : Int) < (n : Int) := by omega
        have hk0 : (0 : Int) ≤ (k : Int) := by omega
        obtain ⟨c0, c1, f0, f1⟩ := HT.out.cells
        have hlen : (Fq.halfTo C k).length = n := by rw [Fq.halfTo_len]; exact HCl.out
        have hown := HT.out.c
        dsimp only at hown
        rw [hlen] at hown
        obtain ⟨y, hy⟩ : ∃ y, C.getD k 0 = y := ⟨_, rfl⟩
        have hce : wr.cell? ⟨g, k, none⟩ = some (.int .i64 (y : Int)) := by
          rw [World.ownsRow.cellAt hown k (by omega), intsV_get (by omega), Fq.halfTo_get C k (by rw [HCl.out]; exact hlt), hy]
        have hfz := World.ownsRow.frozenAt hown k
        have hset := HT.out.setc (by dsimp only; exact hlen.symm) k ((y + 1) / 2)
        dsimp only at hset
        rw [← hy, Fq.halfTo_set C k (by rw [HCl.out]; exact hlt), hy] at hset
        have hyb : y ≤ 100000 := by rw [← hy]; exact Hbd.out k
        have hyi : (y : Int) ≤ 100000 := by omega
        rw [show ((((y + 1) / 2 : Nat)) : Int) = ((y : Int) + 1) / 2 by omega] at hset
        have HT2 := Lib.hid hset.1
        have HF2 := Lib.hid (HF.out.trans hset.2 (fun _ h => .inl h))
        clear hlen hown hy hset hyb
        go_wp2
        go_roundw
        case rel => exact ⟨k + 1, by omega, by go_num, HT2.out, HF2.out⟩
        case measure => simp [intOf]; omega
      · obtain rfl : k = n := by omega
        have hfin := HT.out
        rw [← HCl.out, Fq.halfTo_all] at hfin
        have Hfin := Lib.hid hfin
        clear hfin
        go_wp2
        go_end0
        exact ⟨rfl, by have := Hfin.out; rw [HCl.out] at this; exact this, HF.out⟩
end Go.Proofs.Ytopnnbhiehljlaa
