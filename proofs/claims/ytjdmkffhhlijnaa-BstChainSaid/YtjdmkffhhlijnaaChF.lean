/- Walks of layer 07 (chain): the next place's matches, and which blocks turn. -/
import Derived.Test.YtjdmkffhhlijnaaCh4
namespace Go.Proofs.Ytjdmkffhhlijnaa
set_option linter.unusedVariables false
open Go.RowKit Go.My Go.Ch

/-- The finder's own blocks. -/
def FootC (p b : Nat) (v5 : Value) (k : Nat) : Prop := k = p ∨ k = b ∨ v5.ownBlock = some k
theorem FinB.foot {w : World} {B p : Nat} {s : ByteArray} {win cut : Int} {pl i b : Nat} {v5 : Value} (h : FinB w B p s win cut pl i b v5) {k : Nat} (hk : FootC p b v5 k) : B ≤ k ∧ k < w.heap.size := by
  rcases hk with e | e | e
  · subst e; exact ⟨h.hp, h.lt⟩
  · subst e
    obtain ⟨es, clock, he⟩ := h.map.obj
    exact ⟨h.hb, lt_of_block he⟩
  · obtain ⟨cur, hc⟩ := own_ty h.row e
    exact ⟨own_base h.row e, lt_of_block hc⟩
theorem FinB.keep {w w' : World} {B p : Nat} {s : ByteArray} {win cut : Int} {pl i b : Nat} {v5 : Value} (h : FinB w B p s win cut pl i b v5) {S : Nat → Prop} (hf : Fr S w w') (hS : ∀ k, S k → k < B) : FinB w' B p s win cut pl i b v5 := by
  obtain ⟨es, clock, he⟩ := h.map.obj
  exact ⟨hf.keep h.blk (fun x => by have := hS _ x; have := h.hp; omega), h.map.same ((hf.keep he (fun x => by have := hS _ x; have := h.hb; omega)).trans he.symm), own_keep h.row hf (fun k hk x => by have := hS _ x; have := own_base h.row hk; omega), h.hp, h.hb⟩

set_option maxHeartbeats 4000000 in
set_option maxRecDepth 100000 in
theorem enter_f {w : World} {B p : Nat} {s : ByteArray} {win cut : Int} {pl i b : Nat} {v5 : Value} (h : FinB w B p s win cut pl i b v5) (hi : i < s.size) (hs : s.size ≤ 1000) :
    Calls Try.prog 18 #[.pointer (some ⟨p, 0, none⟩), .int .i64 (i : Int)] w fun e w' => ∃ v5', e = .returned (.int .i64 (prv s.data.toList i)) ∧ FinB w' B p s win cut pl (i + 1) b v5' ∧ Fr (FootC p b v5) w w' := by
  obtain ⟨l, hl⟩ : ∃ l, s.data.toList = l := ⟨_, rfl⟩
  have hsz : s.size = l.length := by rw [← hl]; simp
  have hat : ∀ j (h : j < s.size), s[j] = l.getD j 0 := fun j h => by rw [← hl]; exact str_at s j h
  have c0 : w.cell? ⟨p, 0, none⟩ = some (.string s) := cell_of h.blk 0
  have hpl := h.lt
  have H := Lib.hid h
  have Hat := Lib.hid hat
  have Hl := Lib.hid hl
  have Hsz := Lib.hid hsz
  clear h hat hl hsz
  by_cases h3 : i + 3 ≤ s.size
  case' pos =>
    have h3I : (i : Int) + 3 ≤ (s.size : Int) := by omega
    have hsl : (Instr.slice 9 (.string s) (some (.int .i64 (i : Int))) (some (.int .i64 ((i : Int) + 3))) none).run Try.prog w = .ok (.string (s.extract i (i + 3))) w := by
      have h := run_slice_string (P := Try.prog) w 9 s .i64 .i64 (i : Int) ((i : Int) + 3) Try.underlying9 (by omega) (by omega) (by omega)
      rw [h]
      rfl
    have hsub : (s.extract i (i + 3)).data.toList = tri l i := sub_tri s l Hl.out i h3
    obtain ⟨sub, hsb⟩ : ∃ sub, s.extract i (i + 3) = sub := ⟨_, rfl⟩
    rw [hsb] at hsl hsub
    have hsn : sub.size = 3 := by
      have : sub.size = sub.data.toList.length := by simp
      rw [this, hsub]; rfl
    have hcv := Lib.run_convert_string_bytes (P := Try.prog) w 9 53 5 sub Try.underlying9 Try.underlying53 Try.underlying5
    have hfr := fr_made w sub
    have hcell := fun j hj => Lib.bytesWorld_cell w 5 sub j hj
    rw [hsn] at hcv
    have hgl : w.heap.size < (Lib.bytesWorld w 5 sub).heap.size := by rw [Lib.bytesWorld_size]; omega
    generalize Lib.bytesWorld w 5 sub = V1 at *
    generalize grownCap w 3 0 5 = cap at *
    obtain ⟨x, hx⟩ : ∃ x, l.getD i 0 = x := ⟨_, rfl⟩
    obtain ⟨y, hy⟩ : ∃ x, l.getD (i + 1) 0 = x := ⟨_, rfl⟩
    obtain ⟨z, hz⟩ : ∃ x, l.getD (i + 2) 0 = x := ⟨_, rfl⟩
    have htri : tri l i = [x, y, z] := by rw [tri, hx, hy, hz]
    have hat3 := arrayAt3 V1 w.heap.size cap
    have k0 : V1.cell? ⟨w.heap.size, 0, none⟩ = some (.int .u8 (x.toNat : Int)) := by rw [hcell 0 (by omega), hsub, htri]; rfl
    have k1 : V1.cell? ⟨w.heap.size, 1, none⟩ = some (.int .u8 (y.toNat : Int)) := by rw [hcell 1 (by omega), hsub, htri]; rfl
    have k2 : V1.cell? ⟨w.heap.size, 2, none⟩ = some (.int .u8 (z.toNat : Int)) := by rw [hcell 2 (by omega), hsub, htri]; rfl
    have HC := Lib.hid hcell
    have Hsub := Lib.hid hsub
    have Hcv := Lib.hid hcv
    clear hcell hcv hsub
    go_enter Try.func18, Try.ntmps18
    go_upto_region 4 with (refine wpList_cv 9 53 _ rfl rfl _ _ rfl Hcv.out ?_)
    have hV := (H.out.fresh hfr).fresh ((Fr.refl (fun _ => False) V1).alloc (.cells #[.int .u8 (x.toNat : Int), .int .u8 (y.toNat : Int), .int .u8 (z.toNat : Int)] 52))
    have hbK := heap_alloc_new V1 (.cells #[.int .u8 (x.toNat : Int), .int .u8 (y.toNat : Int), .int .u8 (z.toNat : Int)] 52)
    have hfV : Fr (FootC p b v5) w (V1.alloc (.cells #[.int .u8 (x.toNat : Int), .int .u8 (y.toNat : Int), .int .u8 (z.toNat : Int)] 52)) := (hfr.mono (fun _ h => h.elim)).alloc _
    generalize V1.heap.size = pK at *
    generalize V1.alloc (.cells #[.int .u8 (x.toNat : Int), .int .u8 (y.toNat : Int), .int .u8 (z.toNat : Int)] 52) = V at *
    have hvK : vK (tri l i) = .agg #[.int .u8 (x.toNat : Int), .int .u8 (y.toNat : Int), .int .u8 (z.toNat : Int)] := by rw [htri]; rfl
    have hVd := hV.fresh (Fr.refl (fun _ => False) V).drew
    have hVdd := hVd.fresh (Fr.refl (fun _ => False) V.drew).drew
    have hmp := hVd.map
    have hmpd := hVdd.map
    rw [Hl.out] at hmp hmpd
    obtain ⟨v, hlook, hv⟩ := hmp.look i
    obtain ⟨U, hupd, hUm, hUg⟩ := hmpd.upd (by rw [← Hsz.out]; exact h3) (by rw [← Hsz.out]; exact hs)
    rw [hvK] at hlook hupd
    have d0 : V.cell? ⟨pK, 0, none⟩ = some (.int .u8 (x.toNat : Int)) := cell_of hbK 0
    have d1 : V.cell? ⟨pK, 1, none⟩ = some (.int .u8 (y.toNat : Int)) := cell_of hbK 1
    have d2 : V.cell? ⟨pK, 2, none⟩ = some (.int .u8 (z.toNat : Int)) := cell_of hbK 2
    have c4 : V.cell? ⟨p, 4, none⟩ = some (.map (some b)) := cell_of hV.blk 4
    have hUb : U.heap[p]? = some (.cells #[.string s, .int .i64 win, .int .i64 cut, .int .i64 (pl : Int), .map (some b), v5] 45 (0, 0)) := (hUg.block p (lt_of_block hVdd.blk) (fun e => hVdd.npb (by simpa using e))).trans hVdd.blk
    have hUr : U.ownsRow B 3 1 v5 i (aheadV l i) := by
      have hr := hVdd.row
      rw [Hl.out] at hr
      refine own_same hr (fun g hg => hUg.block g ?_ (fun e => (hVdd.nown g hg).2 (by simpa using e)))
      obtain ⟨cur, hc⟩ := own_ty hr hg
      exact lt_of_block hc
    have hUf : Fr (FootC p b v5) w U := (hfV.drew.drew).grown hUg (fun k hk => .inl (.inr (.inl (by injection hk with hk; exact hk.symm))))
    have UB := Lib.hid hUb
    have UR := Lib.hid hUr
    have UF := Lib.hid hUf
    have UM := Lib.hid hUm
    have hprv : prv l i = (match lastN l (tri l i) i with | some q => (q : Int) | none => -1) := by
      rw [prv, if_pos (by rw [← Hsz.out]; exact h3), lastN_prv l i i (by rw [← Hsz.out]; omega)]
      cases lastN l (tri l i) i <;> rfl
    obtain ⟨PR, hPR⟩ : ∃ PR, prv l i = PR := ⟨_, rfl⟩
    rw [hPR] at hprv
    have HPR := Lib.hid hPR
    clear hV hVd hVdd hmp hmpd hbK hfV hUb hUr hUf hUm hUg hvK htri hx hy hz HC Hsub Hcv hat3 hfr hgl hsb hsl hsn k0 k1 k2 hPR
    cases hlast : lastN l (tri l i) i with
    | some q =>
      rw [hlast] at hprv hlook
      have hq := hv q hlast
      subst hq
      dsimp only at hprv
      have HQ := Lib.hid hprv
      clear hv hlast hprv
      go_region
      go_upto_region 7 with fail
      go_region
      go_upto_region 8 with fail
      rw [← HQ.out]
      obtain ⟨i0, hi0', hz0, hz1, hz2⟩ := info_parts infoI
      have Hi := Lib.hid hi0'
      have Hz0 := Lib.hid hz0
      have Hz1 := Lib.hid hz1
      have Hz2 := Lib.hid hz2
      clear hi0' hz0 hz1 hz2
      obtain ⟨ad, cap5, hv5⟩ := own_any UR.out
      subst hv5
      have hnp : ∀ g, (Value.slice ad i cap5).ownBlock = some g → g ≠ p ∧ g ≠ b := fun g hg => by
        obtain ⟨cur, hc⟩ := own_ty UR.out hg
        refine ⟨ne_of_ty hc UB.out (by decide), fun e => ?_⟩
        obtain ⟨es, clock, he⟩ := UM.out.obj
        rw [e, he] at hc
        cases hc
      have c5 : U.cell? ⟨p, 5, none⟩ = some (.slice ad i cap5) := cell_of UB.out 5
      have Hnp := Lib.hid hnp
      have hnext := aheadV_next l i
      rw [HPR.out] at hnext
      have Hnx := Lib.hid hnext
      clear hnp hnext
      go_wp2_with (at_builtin; refine wpList_append_my _ rfl _ _ 43 rfl B 3 i0 (.int .i64 0) 1 8 Try.underlying43 Hi.out Hz0.out Hz1.out Hz2.out rfl (by decide) (.slice ad i cap5) i _ (by rfl) (UR.out.alloc _) ⟨_, 0, none⟩ 1 1 [.int .i64 PR] (by rfl) (by rfl) (World.news_of_block (cs := #[.int .i64 PR]) (t := 3) (fr := (0, 0)) (heap_alloc_new _ _)) (by simp [Value.oneCell']) (by omega) (by unfold maxLen; omega) (by omega) (by have := UF.out.size; have := H.out.hp; have := H.out.lt; simp; omega) _ rfl ?_; intro g cap2 w2 hown hgrow hat hlt2 hsame; have IB := Lib.hid hown; have hbp : w2.heap[p]? = some (.cells #[.string s, .int .i64 win, .int .i64 cut, .int .i64 (pl : Int), .map (some b), .slice ad i cap5] 45 (0, 0)) := (hgrow.block p (by have := lt_of_block UB.out; simp; omega) (fun e => (Hnp.out p e.symm).1 rfl)).trans (block_alloc UB.out); have c5n : w2.cell? ⟨p, 5, none⟩ = some (.slice ad i cap5) := cell_of hbp 5; have f5n := free_of hbp 5; have IP := Lib.hid hbp; have IM : Hid (MapT w2 b l (i + 1)) := (by { obtain ⟨es, clock, he⟩ := UM.out.obj; exact UM.out.same ((hgrow.block b (by have := lt_of_block he; simp; omega) (fun e => (Hnp.out b e.symm).2 rfl)).trans ((block_alloc he).trans he.symm)) }); have IF : Hid (Fr (FootC p b _) w w2) := Lib.hid ((UF.out.alloc _).grown hgrow (fun k hk => .inl (.inr (.inr hk)))); clear hown hgrow hat hlt2 hsame hbp)
      go_ret
      have hfr := (Fr.refl (fun k => k = p) w2).setCell ⟨p, 5, none⟩ (.slice (some ⟨g, 0, none⟩) (i + 1) cap2) (.inl rfl)
      obtain ⟨cur, hgc⟩ := own_ty IB.out (g := g) rfl
      refine ⟨_, by rw [Hl.out, HPR.out]; rfl, ⟨block_setCell IP.out _ (off := 5), ?_, ?_, H.out.hp, H.out.hb⟩, IF.out.setCell _ _ (.inl (.inl rfl))⟩
      · rw [Hl.out]
        obtain ⟨es, clock, he⟩ := IM.out.obj
        exact IM.out.same ((hfr.keep he (fun e => by rw [e] at he; rw [IP.out] at he; cases he)).trans he.symm)
      · rw [Hl.out, Hnx.out]
        exact own_keep IB.out hfr (fun k hk e => by
          have hk2 : g = k := by simpa [Value.ownBlock] using hk
          rw [e] at hk2
          exact ne_of_ty hgc IP.out (by decide) hk2)
    | none =>
      rw [hlast] at hprv hlook
      dsimp only at hprv
      have HQ := Lib.hid hprv
      clear hv hlast hprv
      go_region
      go_upto_region 7 with fail
      go_region
      go_upto_region 8 with fail
      rw [← HQ.out]
      obtain ⟨i0, hi0', hz0, hz1, hz2⟩ := info_parts infoI
      have Hi := Lib.hid hi0'
      have Hz0 := Lib.hid hz0
      have Hz1 := Lib.hid hz1
      have Hz2 := Lib.hid hz2
      clear hi0' hz0 hz1 hz2
      obtain ⟨ad, cap5, hv5⟩ := own_any UR.out
      subst hv5
      have hnp : ∀ g, (Value.slice ad i cap5).ownBlock = some g → g ≠ p ∧ g ≠ b := fun g hg => by
        obtain ⟨cur, hc⟩ := own_ty UR.out hg
        refine ⟨ne_of_ty hc UB.out (by decide), fun e => ?_⟩
        obtain ⟨es, clock, he⟩ := UM.out.obj
        rw [e, he] at hc
        cases hc
      have c5 : U.cell? ⟨p, 5, none⟩ = some (.slice ad i cap5) := cell_of UB.out 5
      have Hnp := Lib.hid hnp
      have hnext := aheadV_next l i
      rw [HPR.out] at hnext
      have Hnx := Lib.hid hnext
      clear hnp hnext
      go_wp2_with (at_builtin; refine wpList_append_my _ rfl _ _ 43 rfl B 3 i0 (.int .i64 0) 1 8 Try.underlying43 Hi.out Hz0.out Hz1.out Hz2.out rfl (by decide) (.slice ad i cap5) i _ (by rfl) (UR.out.alloc _) ⟨_, 0, none⟩ 1 1 [.int .i64 PR] (by rfl) (by rfl) (World.news_of_block (cs := #[.int .i64 PR]) (t := 3) (fr := (0, 0)) (heap_alloc_new _ _)) (by simp [Value.oneCell']) (by omega) (by unfold maxLen; omega) (by omega) (by have := UF.out.size; have := H.out.hp; have := H.out.lt; simp; omega) _ rfl ?_; intro g cap2 w2 hown hgrow hat hlt2 hsame; have IB := Lib.hid hown; have hbp : w2.heap[p]? = some (.cells #[.string s, .int .i64 win, .int .i64 cut, .int .i64 (pl : Int), .map (some b), .slice ad i cap5] 45 (0, 0)) := (hgrow.block p (by have := lt_of_block UB.out; simp; omega) (fun e => (Hnp.out p e.symm).1 rfl)).trans (block_alloc UB.out); have c5n : w2.cell? ⟨p, 5, none⟩ = some (.slice ad i cap5) := cell_of hbp 5; have f5n := free_of hbp 5; have IP := Lib.hid hbp; have IM : Hid (MapT w2 b l (i + 1)) := (by { obtain ⟨es, clock, he⟩ := UM.out.obj; exact UM.out.same ((hgrow.block b (by have := lt_of_block he; simp; omega) (fun e => (Hnp.out b e.symm).2 rfl)).trans ((block_alloc he).trans he.symm)) }); have IF : Hid (Fr (FootC p b _) w w2) := Lib.hid ((UF.out.alloc _).grown hgrow (fun k hk => .inl (.inr (.inr hk)))); clear hown hgrow hat hlt2 hsame hbp)
      go_ret
      have hfr := (Fr.refl (fun k => k = p) w2).setCell ⟨p, 5, none⟩ (.slice (some ⟨g, 0, none⟩) (i + 1) cap2) (.inl rfl)
      obtain ⟨cur, hgc⟩ := own_ty IB.out (g := g) rfl
      refine ⟨_, by rw [Hl.out, HPR.out]; rfl, ⟨block_setCell IP.out _ (off := 5), ?_, ?_, H.out.hp, H.out.hb⟩, IF.out.setCell _ _ (.inl (.inl rfl))⟩
      · rw [Hl.out]
        obtain ⟨es, clock, he⟩ := IM.out.obj
        exact IM.out.same ((hfr.keep he (fun e => by rw [e] at he; rw [IP.out] at he; cases he)).trans he.symm)
      · rw [Hl.out, Hnx.out]
        exact own_keep IB.out hfr (fun k hk e => by
          have hk2 : g = k := by simpa [Value.ownBlock] using hk
          rw [e] at hk2
          exact ne_of_ty hgc IP.out (by decide) hk2)
  case' neg =>
    have h3I : ¬ ((i : Int) + 3 ≤ (s.size : Int)) := by omega
    have hUm := H.out.map
    rw [Hl.out] at hUm
    have UM := Lib.hid (hUm.skip (by rw [← Hsz.out]; exact h3))
    have hUr := H.out.row
    rw [Hl.out] at hUr
    have UR := Lib.hid hUr
    have UB := Lib.hid H.out.blk
    have UF : Hid (Fr (FootC p b v5) w w) := Fr.refl _ w
    have hprv : prv l i = -1 := by rw [prv, if_neg (by rw [← Hsz.out]; exact h3)]
    obtain ⟨PR, hPR⟩ : ∃ PR, prv l i = PR := ⟨_, rfl⟩
    rw [hPR] at hprv
    have HPR := Lib.hid hPR
    have HQ := Lib.hid hprv
    clear hUm hUr hprv hPR
    go_enter Try.func18, Try.ntmps18
    go_upto_region 8 with fail
    rw [← HQ.out]
    obtain ⟨i0, hi0', hz0, hz1, hz2⟩ := info_parts infoI
    have Hi := Lib.hid hi0'
    have Hz0 := Lib.hid hz0
    have Hz1 := Lib.hid hz1
    have Hz2 := Lib.hid hz2
    clear hi0' hz0 hz1 hz2
    obtain ⟨ad, cap5, hv5⟩ := own_any UR.out
    subst hv5
    have hnp : ∀ g, (Value.slice ad i cap5).ownBlock = some g → g ≠ p ∧ g ≠ b := fun g hg => by
      obtain ⟨cur, hc⟩ := own_ty UR.out hg
      refine ⟨ne_of_ty hc UB.out (by decide), fun e => ?_⟩
      obtain ⟨es, clock, he⟩ := UM.out.obj
      rw [e, he] at hc
      cases hc
    have c5 : w.cell? ⟨p, 5, none⟩ = some (.slice ad i cap5) := cell_of UB.out 5
    have Hnp := Lib.hid hnp
    have hnext := aheadV_next l i
    rw [HPR.out] at hnext
    have Hnx := Lib.hid hnext
    clear hnp hnext
    go_wp2_with (at_builtin; refine wpList_append_my _ rfl _ _ 43 rfl B 3 i0 (.int .i64 0) 1 8 Try.underlying43 Hi.out Hz0.out Hz1.out Hz2.out rfl (by decide) (.slice ad i cap5) i _ (by rfl) (UR.out.alloc _) ⟨_, 0, none⟩ 1 1 [.int .i64 PR] (by rfl) (by rfl) (World.news_of_block (cs := #[.int .i64 PR]) (t := 3) (fr := (0, 0)) (heap_alloc_new _ _)) (by simp [Value.oneCell']) (by omega) (by unfold maxLen; omega) (by omega) (by have := UF.out.size; have := H.out.hp; have := H.out.lt; simp; omega) _ rfl ?_; intro g cap2 w2 hown hgrow hat hlt2 hsame; have IB := Lib.hid hown; have hbp : w2.heap[p]? = some (.cells #[.string s, .int .i64 win, .int .i64 cut, .int .i64 (pl : Int), .map (some b), .slice ad i cap5] 45 (0, 0)) := (hgrow.block p (by have := lt_of_block UB.out; simp; omega) (fun e => (Hnp.out p e.symm).1 rfl)).trans (block_alloc UB.out); have c5n : w2.cell? ⟨p, 5, none⟩ = some (.slice ad i cap5) := cell_of hbp 5; have f5n := free_of hbp 5; have IP := Lib.hid hbp; have IM : Hid (MapT w2 b l (i + 1)) := (by { obtain ⟨es, clock, he⟩ := UM.out.obj; exact UM.out.same ((hgrow.block b (by have := lt_of_block he; simp; omega) (fun e => (Hnp.out b e.symm).2 rfl)).trans ((block_alloc he).trans he.symm)) }); have IF : Hid (Fr (FootC p b _) w w2) := Lib.hid ((UF.out.alloc _).grown hgrow (fun k hk => .inl (.inr (.inr hk)))); clear hown hgrow hat hlt2 hsame hbp)
    go_ret
    have hfr := (Fr.refl (fun k => k = p) w2).setCell ⟨p, 5, none⟩ (.slice (some ⟨g, 0, none⟩) (i + 1) cap2) (.inl rfl)
    obtain ⟨cur, hgc⟩ := own_ty IB.out (g := g) rfl
    refine ⟨by rw [Hl.out, HPR.out]; rfl, ⟨_, ⟨block_setCell IP.out _ (off := 5), ?_, ?_, H.out.hp, H.out.hb⟩⟩, IF.out.setCell _ _ (.inl (.inl rfl))⟩
    · rw [Hl.out]
      obtain ⟨es, clock, he⟩ := IM.out.obj
      exact IM.out.same ((hfr.keep he (fun e => by rw [e] at he; rw [IP.out] at he; cases he)).trans he.symm)
    · rw [Hl.out, Hnx.out]
      exact own_keep IB.out hfr (fun k hk e => by
        have hk2 : g = k := by simpa [Value.ownBlock] using hk
        rw [e] at hk2
        exact ne_of_ty hgc IP.out (by decide) hk2)

set_option maxHeartbeats 4000000 in
set_option maxRecDepth 100000 in
theorem next_f {w : World} {B p : Nat} {s : ByteArray} {win cut : Int} {i b : Nat} {vA : Value} (h : FinB w B p s win cut i i b vA) (hi : i < s.size) (hs : s.size ≤ 1000) :
    Calls Try.prog 10 #[.pointer (some ⟨p, 0, none⟩)] w fun e w' => ∃ r v5', e = .returned r ∧ w'.ownsRow w.heap.size 32 2 r (foundL s.data.toList i win cut).length (foundV (foundL s.data.toList i win cut)) ∧ FinB w' B p s win cut (i + 1) (i + 1) b v5' ∧ Fr (FootC p b vA) w w' := by
  obtain ⟨l, hl⟩ : ∃ l, s.data.toList = l := ⟨_, rfl⟩
  have hsz : s.size = l.length := by rw [← hl]; simp
  have c0 : w.cell? ⟨p, 0, none⟩ = some (.string s) := cell_of h.blk 0
  have c3 : w.cell? ⟨p, 3, none⟩ = some (.int .i64 (i : Int)) := cell_of h.blk 3
  have f3 := free_of h.blk 3
  have hiI : ¬ ((s.size : Int) ≤ (i : Int)) := by omega
  have hd := h.fresh (Fr.refl (fun _ => False) w).drew
  have hm := hd.move (i + 1)
  have hfm : Fr (FootC p b vA) w (w.drew.setCell ⟨p, 3, none⟩ (.int .i64 ((i + 1 : Nat) : Int))) := ((Fr.refl _ w).drew).setCell _ _ (.inl (.inl rfl))
  have hen := enter_f hm hi hs
  rw [hl] at hen
  obtain ⟨V, hV⟩ : ∃ V, w.drew.setCell ⟨p, 3, none⟩ (.int .i64 ((i + 1 : Nat) : Int)) = V := ⟨_, rfl⟩
  have hV' : (w.setCell ⟨p, 3, none⟩ (.int .i64 ((i : Int) + 1))).drew = V := by rw [← hV]; rfl
  rw [hV] at hen hfm
  have Hen := Lib.hid hen
  have HF := Lib.hid hfm
  have HV := Lib.hid hV'
  have Hl := Lib.hid hl
  have Hsz := Lib.hid hsz
  clear hd hm hfm hen hV hV' hl hsz h
  go_enter Try.func10, Try.ntmps10
  go_upto_region 1 with fail
  go_region
  all_goals go_upto_region 7 with fail
  rw [HV.out]
  clear c0 c3 f3 hiI HV
  go_upto_block 0 with (go_at_call 18; refine Hen.out.mono ?_; rintro e w1 ⟨v5a, rfl, h1, h2⟩; have FA := Lib.hid h1; have FF := Lib.hid (HF.out.trans h2 (fun _ h => .inl h)); clear h1 h2)
  clear Hen HF
  obtain ⟨i0, hi0', hz0, hz1, hz2⟩ := info_parts infoF
  have Hi := Lib.hid hi0'
  have Hz0 := Lib.hid hz0
  have Hz1 := Lib.hid hz1
  have Hz2 := Lib.hid hz2
  clear hi0' hz0 hz1 hz2
  have hBw := FA.out.hp
  have hpl1 := FA.out.lt
  obtain ⟨g5, cap5, hv5a⟩ := own_slice FA.out.row (by omega)
  subst hv5a
  have HBp := Lib.hid hBw
  have hst := nextK_start l i
  obtain ⟨K0, hK0⟩ : ∃ K, prv l i = K := ⟨_, rfl⟩
  rw [hK0] at hst ⊢
  have HS := Lib.hid hst
  clear hst hK0 hBw hpl1
  go_wp2
  go_loopw [4, 5, 6, 7, 8] (fun v4 v5 v6 v7 _ wr => ∃ (m : Nat) (K : Int), v6 = .int .i64 K ∧ Hid (NextK l i m K ∧ m ≤ lim i win) ∧ v5 = .int .i64 ((hst l i cut m).best : Nat) ∧ v7 = .int .i64 ((hst l i cut m).seen : Nat) ∧ Hid (wr.ownsRow w.heap.size 32 2 v4 (hst l i cut m).out.length (foundV (hst l i cut m).out)) ∧ Hid (FinB wr B p s win cut (i + 1) (i + 1) b (.slice (some ⟨g5, 0, none⟩) (i + 1) cap5)) ∧ Hid (Fr (FootC p b vA) w wr)) (fun _ _ v6 _ _ _ => (intOf v6 + 1).toNat)
  case atStart => exact ⟨0, K0, rfl, ⟨HS.out, Nat.zero_le _⟩, rfl, rfl, ⟨rfl, .inl ⟨rfl, rfl⟩⟩, FA, FF⟩
  case round =>
    obtain ⟨m, K, rfl, hK, rfl, rfl, KR, KA, KF⟩ := hrel
    clear FA FF HS
    have c0 : wr.cell? ⟨p, 0, none⟩ = some (.string s) := cell_of KA.out.blk 0
    have c1 : wr.cell? ⟨p, 1, none⟩ = some (.int .i64 win) := cell_of KA.out.blk 1
    have c2 : wr.cell? ⟨p, 2, none⟩ = some (.int .i64 cut) := cell_of KA.out.blk 2
    obtain ⟨hs0, hhs⟩ : ∃ h, hst l i cut m = h := ⟨_, rfl⟩
    have hln := hst_len l i cut m
    have hbe := hst_best l i cut m
    rw [hhs] at KR hln hbe ⊢
    obtain ⟨bt, sn, ot⟩ := hs0
    dsimp only at KR hln hbe ⊢
    have hmi : m ≤ i := by have := hK.out.2; have := (lim_le i win).1; omega
    by_cases hx : K = -1 ∨ win < (i : Int) - K ∨ ¬ ((sn : Int) < cut)
    · have hend := hst_end l i win cut m K hK.out.1 hK.out.2 (by rw [hhs]; exact hx)
      have hfl : foundL l i win cut = ot := by unfold foundL; rw [← hend, hhs]
      have HFl := Lib.hid hfl
      have hcases : K = -1 ∨ (∃ q : Nat, K = (q : Int) ∧ q < i ∧ win < (i : Int) - (q : Int)) ∨ (∃ q : Nat, K = (q : Int) ∧ q < i ∧ (i : Int) - (q : Int) ≤ win ∧ ¬ ((sn : Int) < cut)) := by
        rcases hK.out.1 with ⟨h1, _⟩ | ⟨q, h1, hqi, _⟩
        · exact .inl h1
        · rcases hx with h | h | h
          · omega
          · exact .inr (.inl ⟨q, h1, hqi, by omega⟩)
          · by_cases hw : win < (i : Int) - (q : Int)
            · exact .inr (.inl ⟨q, h1, hqi, hw⟩)
            · exact .inr (.inr ⟨q, h1, hqi, by omega, h⟩)
      clear hend hfl hx hhs hK
      rcases hcases with h | ⟨q, h, hqi, h2⟩ | ⟨q, h, hqi, h2, h3⟩
      · subst h
        go_wp2
        go_ret
        first | exact ⟨_, _, rfl, by rw [Hl.out, HFl.out]; exact KR.out, KA.out, KF.out⟩ | exact ⟨_, rfl, by rw [Hl.out, HFl.out]; exact KR.out, ⟨_, KA.out⟩, KF.out⟩
      · subst h
        have hq1 : ((q : Int) == -1) = false := by first | (simp; done) | (simp; omega)
        have hq2 : ¬ ((q : Int) = -1) := by omega
        have hq3 : ((q : Int) != -1) = true := by simp [bne, hq1]
        have hw2 : ¬ ((i : Int) - (q : Int) ≤ win) := by omega
        go_wp2
        go_ret
        first | exact ⟨_, _, rfl, by rw [Hl.out, HFl.out]; exact KR.out, KA.out, KF.out⟩ | exact ⟨_, rfl, by rw [Hl.out, HFl.out]; exact KR.out, ⟨_, KA.out⟩, KF.out⟩
      · subst h
        have hq1 : ((q : Int) == -1) = false := by first | (simp; done) | (simp; omega)
        have hq2 : ¬ ((q : Int) = -1) := by omega
        have hq3 : ((q : Int) != -1) = true := by simp [bne, hq1]
        go_wp2
        go_ret
        first | exact ⟨_, _, rfl, by rw [Hl.out, HFl.out]; exact KR.out, KA.out, KF.out⟩ | exact ⟨_, rfl, by rw [Hl.out, HFl.out]; exact KR.out, ⟨_, KA.out⟩, KF.out⟩
    · have hxx : K ≠ -1 ∧ (i : Int) - K ≤ win ∧ (sn : Int) < cut := by
        refine ⟨fun h => hx (.inl h), ?_, ?_⟩
        · exact Int.not_lt.1 (fun h => hx (.inr (.inl h)))
        · exact Classical.byContradiction (fun h => hx (.inr (.inr h)))
      obtain ⟨q, hKq, hqi, hmq, hcd, hno⟩ : ∃ q : Nat, K = (q : Int) ∧ q < i ∧ m < i - q ∧ cand l i (i - q) = true ∧ ∀ d, m < d → d < i - q → cand l i d = false := by
        rcases hK.out.1 with ⟨h1, _⟩ | h
        · exact absurd h1 hxx.1
        · exact h
      subst hKq
      have hrd := hst_round l i q cut m hmq hcd hno (by rw [hhs]; exact hxx.2.2)
      rw [hhs] at hrd
      have hnk := nextK_step l i q hqi hcd
      obtain ⟨d, hd⟩ : ∃ d, i - q = d := ⟨_, rfl⟩
      have hdq : i - d = q := by omega
      rw [hd] at hrd hnk
      have hlm : d ≤ lim i win := by unfold lim; have := hxx.2.1; omega
      have hal := alike_is s hs q i hqi (by omega) wr
      rw [Hl.out] at hal
      have hale := alike_le l q i
      unfold stepH at hrd
      rw [hdq] at hrd
      dsimp only at hrd
      obtain ⟨n, hn⟩ : ∃ n, alike l q i = n := ⟨_, rfl⟩
      rw [hn] at hrd hal hale
      have hn273 : n ≤ 273 := by unfold most at hale; omega
      obtain ⟨K2, hK2⟩ : ∃ K2, prv l q = K2 := ⟨_, rfl⟩
      rw [hK2] at hnk
      have hK2q : K2 < (q : Int) ∧ -1 ≤ K2 := by
        rw [← hK2]
        unfold prv
        split
        · rcases prvN_spec l q q with ⟨h1, _⟩ | ⟨p', h1, h2, _⟩
          · omega
          · omega
        · omega
      have hdI : (i : Int) - (q : Int) = (d : Int) := by omega
      have hq1 : ((q : Int) == -1) = false := by first | (simp; done) | (simp; omega)
      have hq2 : ¬ ((q : Int) = -1) := by omega
      have hq3 : ((q : Int) != -1) = true := by simp [bne, hq1]
      have hw2 : (d : Int) ≤ win := by have := hxx.2.1; omega
      have hsc : (sn : Int) < cut := hxx.2.2
      have hq0 : (0 : Int) ≤ (q : Int) := by omega
      have hqa : (q : Int) < (i : Int) + 1 := by omega
      have Hal := Lib.hid hal
      have HK2 := Lib.hid hK2
      have HNK := Lib.hid hnk
      have HLM := Lib.hid hlm
      clear hx hxx hhs hK hmq hcd hno hd hdq hal hale hn hK2 hnk hlm
      go_upto_region 12 with (go_at_call 19; refine Hal.out.mono ?_; rintro e w2 ⟨rfl, h⟩; have R2 := Lib.hid (own_keep KR.out h (fun _ _ x => x)); have A2 := Lib.hid (KA.out.fresh h); have F2 := Lib.hid (KF.out.trans h (fun _ h => h.elim)); clear h)
      clear c0 c1 c2 KR KA KF Hal
      by_cases hb : bt < n
      · have hbI : (bt : Int) < (n : Int) := by omega
        rw [if_pos hb] at hrd
        have hrl : (hst l i cut d).out.length = ot.length + 1 := by rw [hrd]; simp
        have hrv : foundV (hst l i cut d).out = foundV ot ++ [.int .i64 (n : Int), .int .i64 (d : Int)] := by rw [hrd]; exact foundV_snoc _ _ _
        have hr5 : (hst l i cut d).best = n := by rw [hrd]
        have hr7 : (hst l i cut d).seen = sn + 1 := by rw [hrd]
        have HRL := Lib.hid hrl
        have HRV := Lib.hid hrv
        have HR5 := Lib.hid hr5
        have HR7 := Lib.hid hr7
        obtain ⟨N, hN⟩ : ∃ N, ot.length = N := ⟨_, rfl⟩
        rw [hN] at R2 HRL hln
        obtain ⟨ad, cap4, hv4⟩ := own_any R2.out
        subst hv4
        have hty := fun g hg => own_ty R2.out (g := g) hg
        have HTY := Lib.hid hty
        have hBs : w.heap.size ≤ w2.heap.size := F2.out.size
        have HBs := Lib.hid hBs
        clear hrd hb hrl hrv hr5 hr7 hN hty hBs
        go_wp2_with (at_builtin; refine wpList_append_my _ rfl _ _ 25 rfl w.heap.size 32 i0 (.agg #[.int .i64 0, .int .i64 0]) 2 16 Try.underlying25 Hi.out Hz0.out Hz1.out Hz2.out rfl (by decide) (.slice ad N cap4) N _ (by rfl) (R2.out.alloc _) ⟨_, 0, none⟩ 1 1 [.int .i64 (n : Int), .int .i64 (d : Int)] (by rfl) (by rfl) (World.news_of_block (cs := #[.int .i64 (n : Int), .int .i64 (d : Int)]) (t := 32) (fr := (0, 0)) (heap_alloc_new _ _)) (by simp [Value.oneCell']) (by omega) (by unfold maxLen; omega) (by omega) (by have := HBs.out; simp; omega) _ rfl ?_; intro g cap2 w3 hown hgrow hat hlt2 hsame; have IB := Lib.hid hown; have IA := Lib.hid ((A2.out.fresh ((Fr.refl (fun _ => False) w2).alloc _)).grown hgrow (fun g hg => (by { obtain ⟨cur, hc⟩ := HTY.out g hg; exact ⟨cur, block_alloc hc⟩ }))); have IF : Hid (Fr (FootC p b vA) w w3) := Lib.hid ((F2.out.alloc _).grown hgrow (fun k hk => .inr (own_base R2.out hk))); have a5 : w3.cell? ⟨p, 5, none⟩ = some (.slice (some ⟨g5, 0, none⟩) (i + 1) cap5) := cell_of IA.out.blk 5; have aq : w3.cell? ⟨g5, q, none⟩ = some (.int .i64 K2) := (IA.out.ahead q (by omega)).trans (by rw [Hl.out, HK2.out]); clear hown hgrow hat hlt2 hsame)
        go_roundw
        case rel => exact ⟨d, K2, rfl, ⟨HNK.out, HLM.out⟩, by rw [HR5.out], by rw [HR7.out]; go_num, by rw [HRL.out, HRV.out]; exact IB, IA, IF⟩
        case measure => simp [intOf]; omega
      · have hbI : ¬ ((bt : Int) < (n : Int)) := by omega
        rw [if_neg hb] at hrd
        have hr0 : (hst l i cut d).out = ot := by rw [hrd]
        have hr5 : (hst l i cut d).best = bt := by rw [hrd]
        have hr7 : (hst l i cut d).seen = sn + 1 := by rw [hrd]
        have HR0 := Lib.hid hr0
        have HR5 := Lib.hid hr5
        have HR7 := Lib.hid hr7
        have a5 : w2.cell? ⟨p, 5, none⟩ = some (.slice (some ⟨g5, 0, none⟩) (i + 1) cap5) := cell_of A2.out.blk 5
        have aq : w2.cell? ⟨g5, q, none⟩ = some (.int .i64 K2) := (A2.out.ahead q (by omega)).trans (by rw [Hl.out, HK2.out])
        clear hrd hb hr0 hr5 hr7
        go_wp2
        go_roundw
        case rel => exact ⟨d, K2, rfl, ⟨HNK.out, HLM.out⟩, by rw [HR5.out], by rw [HR7.out]; go_num, by rw [HR0.out]; exact R2, A2, F2⟩
        case measure => simp [intOf]; omega
end Go.Proofs.Ytjdmkffhhlijnaa
