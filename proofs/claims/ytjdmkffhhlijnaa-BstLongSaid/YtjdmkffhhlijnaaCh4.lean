/- Walks of layer 07 (chain): the next place's matches. -/
import Derived.Test.YtjdmkffhhlijnaaCh3
import Derived.Test.YtjdmkffhhlijnaaChN
namespace Go.Proofs.Ytjdmkffhhlijnaa
set_option linter.unusedVariables false
open Go.RowKit Go.My Go.Ch

def foundV (l : List (Nat × Nat)) : List Value := l.flatMap fun x => [Value.int .i64 (x.1 : Int), .int .i64 (x.2 : Int)]
theorem foundV_snoc (l : List (Nat × Nat)) (n d : Nat) : foundV (l ++ [(n, d)]) = foundV l ++ [.int .i64 (n : Int), .int .i64 (d : Int)] := by simp [foundV]
theorem foundV_length (l : List (Nat × Nat)) : (foundV l).length = l.length * 2 := by
  induction l with
  | nil => rfl
  | cons x l ih => simp only [foundV, List.flatMap_cons, List.length_append, List.length_cons, List.length_nil] at *; omega
theorem infoF : (Try.prog.info? 32).map (fun i => (i.zero, i.size, i.bytes)) = some (some (.agg #[.int .i64 0, .int .i64 0]), 2, 16) := by kernel_rfl
theorem FinB.grown {w w' : World} {B p : Nat} {s : ByteArray} {win cut : Int} {pl i b : Nat} {v5 : Value} (h : FinB w B p s win cut pl i b v5) {row : Option Nat} (hg : w.grownBy w' row)
    (hr : ∀ g, row = some g → ∃ cur, w.heap[g]? = some (.cells cur 32 (0, 0))) : FinB w' B p s win cut pl i b v5 := by
  obtain ⟨es, clock, he⟩ := h.map.obj
  have keep : ∀ k o, w.heap[k]? = some o → (∀ cur, o ≠ Obj.cells cur 32 (0, 0)) → w'.heap[k]? = some o := fun k o hk ho =>
    (hg.block k (lt_of_block hk) (fun e => by
      obtain ⟨cur, hc⟩ := hr k e.symm
      rw [hk] at hc
      injection hc with hc
      exact ho cur hc)).trans hk
  have hb := keep p _ h.blk (fun cur e => by injection e with _ e2 _; exact absurd e2 (by decide))
  have hm := keep b _ he (fun cur e => by cases e)
  refine ⟨hb, h.map.same (hm.trans he.symm), own_same h.row (fun g hgo => ?_), h.hp, h.hb⟩
  obtain ⟨cur, hc⟩ := own_ty h.row hgo
  exact (keep g _ hc (fun cur e => by injection e with _ e2 _; exact absurd e2 (by decide))).trans hc.symm
theorem FinB.ahead {w : World} {B p : Nat} {s : ByteArray} {win cut : Int} {pl i b g n cap : Nat} (h : FinB w B p s win cut pl i b (.slice (some ⟨g, 0, none⟩) n cap)) (q : Nat) (hq : q < i) : w.cell? ⟨g, q, none⟩ = some (.int .i64 (prv s.data.toList q)) := by
  have hc := h.row.cells (g := g) rfl q (.int .i64 (prv s.data.toList q)) (by simp [aheadV, hq])
  have e : (⟨g, 0, none⟩ : Addr).add q = ⟨g, q, none⟩ := by unfold Addr.add; split <;> simp_all
  rwa [e] at hc

set_option maxHeartbeats 4000000 in
set_option maxRecDepth 100000 in
theorem next_is {w : World} {B p : Nat} {s : ByteArray} {win cut : Int} {i b : Nat} {v5 : Value} (h : FinB w B p s win cut i i b v5) (hi : i < s.size) (hs : s.size ≤ 1000) :
    Calls Try.prog 10 #[.pointer (some ⟨p, 0, none⟩)] w fun e w' => ∃ r v5', e = .returned r ∧ w'.ownsRow B 32 2 r (foundL s.data.toList i win cut).length (foundV (foundL s.data.toList i win cut)) ∧ FinB w' B p s win cut (i + 1) (i + 1) b v5' ∧ Fr (fun k => B ≤ k) w w' := by
  obtain ⟨l, hl⟩ : ∃ l, s.data.toList = l := ⟨_, rfl⟩
  have hsz : s.size = l.length := by rw [← hl]; simp
  have c0 : w.cell? ⟨p, 0, none⟩ = some (.string s) := cell_of h.blk 0
  have c3 : w.cell? ⟨p, 3, none⟩ = some (.int .i64 (i : Int)) := cell_of h.blk 3
  have f3 := free_of h.blk 3
  have hiI : ¬ ((s.size : Int) ≤ (i : Int)) := by omega
  have hd := h.fresh (Fr.refl (fun _ => False) w).drew
  have hm := hd.move (i + 1)
  have hfm : Fr (fun k => B ≤ k) w (w.drew.setCell ⟨p, 3, none⟩ (.int .i64 ((i + 1 : Nat) : Int))) := ((Fr.refl _ w).drew).setCell _ _ (.inl h.hp)
  have hen := enter_is hm hi hs
  rw [hl] at hen
  obtain ⟨V, hV⟩ : ∃ V, w.drew.setCell ⟨p, 3, none⟩ (.int .i64 ((i + 1 : Nat) : Int)) = V := ⟨_, rfl⟩
  have hV' : (w.setCell ⟨p, 3, none⟩ (.int .i64 ((i : Int) + 1))).drew = V := by rw [← hV]; rfl
  rw [hV] at hen hfm
  have Hen := Lib.hid hen
  have HF := Lib.hid hfm
  have HV := Lib.hid hV'
  have Hl := Lib.hid hl
  have Hsz := Lib.hid hsz
  clear hd hm hfm hen hV hV' hl hsz h
  go_enter Try.func10, Try.ntmps10
  go_upto_region 1 with fail
  go_region
  all_goals go_upto_region 7 with fail
  rw [HV.out]
  clear c0 c3 f3 hiI HV
  go_upto_block 0 with (go_at_call 18; refine Hen.out.mono ?_; rintro e w1 ⟨v5a, rfl, h1, h2⟩; have FA := Lib.hid h1; have FF := Lib.hid (HF.out.trans h2 (fun _ h => .inl h)); clear h1 h2)
  clear Hen HF
  obtain ⟨i0, hi0', hz0, hz1, hz2⟩ := info_parts infoF
  have Hi := Lib.hid hi0'
  have Hz0 := Lib.hid hz0
  have Hz1 := Lib.hid hz1
  have Hz2 := Lib.hid hz2
  clear hi0' hz0 hz1 hz2
  have hBw := FA.out.hp
  have hpl1 := FA.out.lt
  obtain ⟨g5, cap5, hv5a⟩ := own_slice FA.out.row (by omega)
  subst hv5a
  have HBp := Lib.hid hBw
  have hst := nextK_start l i
  obtain ⟨K0, hK0⟩ : ∃ K, prv l i = K := ⟨_, rfl⟩
  rw [hK0] at hst ⊢
  have HS := Lib.hid hst
  clear hst hK0 hBw hpl1
  go_wp2
  go_loopw [4, 5, 6, 7, 8] (fun v4 v5 v6 v7 _ wr => ∃ (m : Nat) (K : Int), v6 = .int .i64 K ∧ Hid (NextK l i m K ∧ m ≤ lim i win) ∧ v5 = .int .i64 ((hst l i cut m).best : Nat) ∧ v7 = .int .i64 ((hst l i cut m).seen : Nat) ∧ Hid (wr.ownsRow B 32 2 v4 (hst l i cut m).out.length (foundV (hst l i cut m).out)) ∧ Hid (FinB wr B p s win cut (i + 1) (i + 1) b (.slice (some ⟨g5, 0, none⟩) (i + 1) cap5)) ∧ Hid (Fr (fun k => B ≤ k) w wr)) (fun _ _ v6 _ _ _ => (intOf v6 + 1).toNat)
  case atStart => exact ⟨0, K0, rfl, ⟨HS.out, Nat.zero_le _⟩, rfl, rfl, ⟨rfl, .inl ⟨rfl, rfl⟩⟩, FA, FF⟩
  case round =>
    obtain ⟨m, K, rfl, hK, rfl, rfl, KR, KA, KF⟩ := hrel
    clear FA FF HS
    have c0 : wr.cell? ⟨p, 0, none⟩ = some (.string s) := cell_of KA.out.blk 0
    have c1 : wr.cell? ⟨p, 1, none⟩ = some (.int .i64 win) := cell_of KA.out.blk 1
    have c2 : wr.cell? ⟨p, 2, none⟩ = some (.int .i64 cut) := cell_of KA.out.blk 2
    obtain ⟨hs0, hhs⟩ : ∃ h, hst l i cut m = h := ⟨_, rfl⟩
    have hln := hst_len l i cut m
    have hbe := hst_best l i cut m
    rw [hhs] at KR hln hbe ⊢
    obtain ⟨bt, sn, ot⟩ := hs0
    dsimp only at KR hln hbe ⊢
    have hmi : m ≤ i := by have := hK.out.2; have := (lim_le i win).1; omega
    by_cases hx : K = -1 ∨ win < (i : Int) - K ∨ ¬ ((sn : Int) < cut)
    · have hend := hst_end l i win cut m K hK.out.1 hK.out.2 (by rw [hhs]; exact hx)
      have hfl : foundL l i win cut = ot := by unfold foundL; rw [← hend, hhs]
      have HFl := Lib.hid hfl
      have hcases : K = -1 ∨ (∃ q : Nat, K = (q : Int) ∧ q < i ∧ win < (i : Int) - (q : Int)) ∨ (∃ q : Nat, K = (q : Int) ∧ q < i ∧ (i : Int) - (q : Int) ≤ win ∧ ¬ ((sn : Int) < cut)) := by
        rcases hK.out.1 with ⟨h1, _⟩ | ⟨q, h1, hqi, _⟩
        · exact .inl h1
        · rcases hx with h | h | h
          · omega
          · exact .inr (.inl ⟨q, h1, hqi, by omega⟩)
          · by_cases hw : win < (i : Int) - (q : Int)
            · exact .inr (.inl ⟨q, h1, hqi, hw⟩)
            · exact .inr (.inr ⟨q, h1, hqi, by omega, h⟩)
      clear hend hfl hx hhs hK
      rcases hcases with h | ⟨q, h, hqi, h2⟩ | ⟨q, h, hqi, h2, h3⟩
      · subst h
        go_wp2
        go_ret
        first | exact ⟨_, _, rfl, by rw [Hl.out, HFl.out]; exact KR.out, KA.out, KF.out⟩ | exact ⟨_, rfl, by rw [Hl.out, HFl.out]; exact KR.out, ⟨_, KA.out⟩, KF.out⟩
      · subst h
        have hq1 : ((q : Int) == -1) = false := by first | (simp; done) | (simp; omega)
        have hq2 : ¬ ((q : Int) = -1) := by omega
        have hq3 : ((q : Int) != -1) = true := by simp [bne, hq1]
        have hw2 : ¬ ((i : Int) - (q : Int) ≤ win) := by omega
        go_wp2
        go_ret
        first | exact ⟨_, _, rfl, by rw [Hl.out, HFl.out]; exact KR.out, KA.out, KF.out⟩ | exact ⟨_, rfl, by rw [Hl.out, HFl.out]; exact KR.out, ⟨_, KA.out⟩, KF.out⟩
      · subst h
        have hq1 : ((q : Int) == -1) = false := by first | (simp; done) | (simp; omega)
        have hq2 : ¬ ((q : Int) = -1) := by omega
        have hq3 : ((q : Int) != -1) = true := by simp [bne, hq1]
        go_wp2
        go_ret
        first | exact ⟨_, _, rfl, by rw [Hl.out, HFl.out]; exact KR.out, KA.out, KF.out⟩ | exact ⟨_, rfl, by rw [Hl.out, HFl.out]; exact KR.out, ⟨_, KA.out⟩, KF.out⟩
    · have hxx : K ≠ -1 ∧ (i : Int) - K ≤ win ∧ (sn : Int) < cut := by
        refine ⟨fun h => hx (.inl h), ?_, ?_⟩
        · exact Int.not_lt.1 (fun h => hx (.inr (.inl h)))
        · exact Classical.byContradiction (fun h => hx (.inr (.inr h)))
      obtain ⟨q, hKq, hqi, hmq, hcd, hno⟩ : ∃ q : Nat, K = (q : Int) ∧ q < i ∧ m < i - q ∧ cand l i (i - q) = true ∧ ∀ d, m < d → d < i - q → cand l i d = false := by
        rcases hK.out.1 with ⟨h1, _⟩ | h
        · exact absurd h1 hxx.1
        · exact h
      subst hKq
      have hrd := hst_round l i q cut m hmq hcd hno (by rw [hhs]; exact hxx.2.2)
      rw [hhs] at hrd
      have hnk := nextK_step l i q hqi hcd
      obtain ⟨d, hd⟩ : ∃ d, i - q = d := ⟨_, rfl⟩
      have hdq : i - d = q := by omega
      rw [hd] at hrd hnk
      have hlm : d ≤ lim i win := by unfold lim; have := hxx.2.1; omega
      have hal := alike_is s hs q i hqi (by omega) wr
      rw [Hl.out] at hal
      have hale := alike_le l q i
      unfold stepH at hrd
      rw [hdq] at hrd
      dsimp only at hrd
      obtain ⟨n, hn⟩ : ∃ n, alike l q i = n := ⟨_, rfl⟩
      rw [hn] at hrd hal hale
      have hn273 : n ≤ 273 := by unfold most at hale; omega
      obtain ⟨K2, hK2⟩ : ∃ K2, prv l q = K2 := ⟨_, rfl⟩
      rw [hK2] at hnk
      have hK2q : K2 < (q : Int) ∧ -1 ≤ K2 := by
        rw [← hK2]
        unfold prv
        split
        · rcases prvN_spec l q q with ⟨h1, _⟩ | ⟨p', h1, h2, _⟩
          · omega
          · omega
        · omega
      have hdI : (i : Int) - (q : Int) = (d : Int) := by omega
      have hq1 : ((q : Int) == -1) = false := by first | (simp; done) | (simp; omega)
      have hq2 : ¬ ((q : Int) = -1) := by omega
      have hq3 : ((q : Int) != -1) = true := by simp [bne, hq1]
      have hw2 : (d : Int) ≤ win := by have := hxx.2.1; omega
      have hsc : (sn : Int) < cut := hxx.2.2
      have hq0 : (0 : Int) ≤ (q : Int) := by omega
      have hqa : (q : Int) < (i : Int) + 1 := by omega
      have Hal := Lib.hid hal
      have HK2 := Lib.hid hK2
      have HNK := Lib.hid hnk
      have HLM := Lib.hid hlm
      clear hx hxx hhs hK hmq hcd hno hd hdq hal hale hn hK2 hnk hlm
      go_upto_region 12 with (go_at_call 19; refine Hal.out.mono ?_; rintro e w2 ⟨rfl, h⟩; have R2 := Lib.hid (own_keep KR.out h (fun _ _ x => x)); have A2 := Lib.hid (KA.out.fresh h); have F2 := Lib.hid (KF.out.trans h (fun _ h => h.elim)); clear h)
      clear c0 c1 c2 KR KA KF Hal
      by_cases hb : bt < n
      · have hbI : (bt : Int) < (n : Int) := by omega
        rw [if_pos hb] at hrd
        have hrl : (hst l i cut d).out.length = ot.length + 1 := by rw [hrd]; simp
        have hrv : foundV (hst l i cut d).out = foundV ot ++ [.int .i64 (n : Int), .int .i64 (d : Int)] := by rw [hrd]; exact foundV_snoc _ _ _
        have hr5 : (hst l i cut d).best = n := by rw [hrd]
        have hr7 : (hst l i cut d).seen = sn + 1 := by rw [hrd]
        have HRL := Lib.hid hrl
        have HRV := Lib.hid hrv
        have HR5 := Lib.hid hr5
        have HR7 := Lib.hid hr7
        obtain ⟨N, hN⟩ : ∃ N, ot.length = N := ⟨_, rfl⟩
        rw [hN] at R2 HRL hln
        obtain ⟨ad, cap4, hv4⟩ := own_any R2.out
        subst hv4
        have hty := fun g hg => own_ty R2.out (g := g) hg
        have HTY := Lib.hid hty
        have hBs : B ≤ w2.heap.size := by have := A2.out.hp; have := A2.out.lt; omega
        have HBs := Lib.hid hBs
        clear hrd hb hrl hrv hr5 hr7 hN hty hBs
        go_wp2_with (at_builtin; refine wpList_append_my _ rfl _ _ 25 rfl B 32 i0 (.agg #[.int .i64 0, .int .i64 0]) 2 16 Try.underlying25 Hi.out Hz0.out Hz1.out Hz2.out rfl (by decide) (.slice ad N cap4) N _ (by rfl) (R2.out.alloc _) ⟨_, 0, none⟩ 1 1 [.int .i64 (n : Int), .int .i64 (d : Int)] (by rfl) (by rfl) (World.news_of_block (cs := #[.int .i64 (n : Int), .int .i64 (d : Int)]) (t := 32) (fr := (0, 0)) (heap_alloc_new _ _)) (by simp [Value.oneCell']) (by omega) (by unfold maxLen; omega) (by omega) (by have := HBs.out; simp; omega) _ rfl ?_; intro g cap2 w3 hown hgrow hat hlt2 hsame; have IB := Lib.hid hown; have IA := Lib.hid ((A2.out.fresh ((Fr.refl (fun _ => False) w2).alloc _)).grown hgrow (fun g hg => (by { obtain ⟨cur, hc⟩ := HTY.out g hg; exact ⟨cur, block_alloc hc⟩ }))); have IF : Hid (Fr (fun k => B ≤ k) w w3) := Lib.hid ((F2.out.alloc _).grown hgrow (fun k hk => .inl (own_base R2.out hk))); have a5 : w3.cell? ⟨p, 5, none⟩ = some (.slice (some ⟨g5, 0, none⟩) (i + 1) cap5) := cell_of IA.out.blk 5; have aq : w3.cell? ⟨g5, q, none⟩ = some (.int .i64 K2) := (IA.out.ahead q (by omega)).trans (by rw [Hl.out, HK2.out]); clear hown hgrow hat hlt2 hsame)
        go_roundw
        case rel => exact ⟨d, K2, rfl, ⟨HNK.out, HLM.out⟩, by rw [HR5.out], by rw [HR7.out]; go_num, by rw [HRL.out, HRV.out]; exact IB, IA, IF⟩
        case measure => simp [intOf]; omega
      · have hbI : ¬ ((bt : Int) < (n : Int)) := by omega
        rw [if_neg hb] at hrd
        have hr0 : (hst l i cut d).out = ot := by rw [hrd]
        have hr5 : (hst l i cut d).best = bt := by rw [hrd]
        have hr7 : (hst l i cut d).seen = sn + 1 := by rw [hrd]
        have HR0 := Lib.hid hr0
        have HR5 := Lib.hid hr5
        have HR7 := Lib.hid hr7
        have a5 : w2.cell? ⟨p, 5, none⟩ = some (.slice (some ⟨g5, 0, none⟩) (i + 1) cap5) := cell_of A2.out.blk 5
        have aq : w2.cell? ⟨g5, q, none⟩ = some (.int .i64 K2) := (A2.out.ahead q (by omega)).trans (by rw [Hl.out, HK2.out])
        clear hrd hb hr0 hr5 hr7
        go_wp2
        go_roundw
        case rel => exact ⟨d, K2, rfl, ⟨HNK.out, HLM.out⟩, by rw [HR5.out], by rw [HR7.out]; go_num, by rw [HR0.out]; exact R2, A2, F2⟩
        case measure => simp [intOf]; omega
end Go.Proofs.Ytjdmkffhhlijnaa
