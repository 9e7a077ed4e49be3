/- Walks of layer 07 (chain): the finder. -/
import Derived.Test.YtjdmkffhhlijnaaCh2
import Derived.Test.YtjdmkffhhlijnaaBr
import Derived.Carry
namespace Go.Proofs.Ytjdmkffhhlijnaa
set_option linter.unusedVariables false
open Go.RowKit Go.My Go.Ch

def aheadV (l : List UInt8) (i : Nat) : List Value := (List.range i).map fun j => Value.int .i64 (prv l j)
theorem aheadV_next (l : List UInt8) (i : Nat) : aheadV l (i + 1) = aheadV l i ++ [.int .i64 (prv l i)] := by simp [aheadV, List.range_succ]
theorem aheadV_length (l : List UInt8) (i : Nat) : (aheadV l i).length = i := by simp [aheadV]
theorem infoI : (Try.prog.info? 3).map (fun i => (i.zero, i.size, i.bytes)) = some (some (.int .i64 0), 1, 8) := by kernel_rfl
/-- A finder: its text, window, cut, place, and the places that were entered. -/
structure FinB (w : World) (B p : Nat) (s : ByteArray) (win cut : Int) (pl i b : Nat) (v5 : Value) : Prop where
  blk : w.heap[p]? = some (.cells #[.string s, .int .i64 win, .int .i64 cut, .int .i64 (pl : Int), .map (some b), v5] 45 (0, 0))
  map : MapT w b s.data.toList i
  row : w.ownsRow B 3 1 v5 i (aheadV s.data.toList i)
  hp : B ≤ p
  hb : B ≤ b
theorem MapT.obj {w : World} {b i : Nat} {l : List UInt8} (h : MapT w b l i) : ∃ es clock, w.heap[b]? = some (.map es clock) := by
  obtain ⟨D, n, hn, ⟨es, clock, he, F, hs, hD⟩, hg⟩ := h
  exact ⟨es, clock, he⟩
theorem FinB.npb {w : World} {B p : Nat} {s : ByteArray} {win cut : Int} {pl i b : Nat} {v5 : Value} (h : FinB w B p s win cut pl i b v5) : p ≠ b := by
  obtain ⟨es, clock, he⟩ := h.map.obj
  intro e
  have := h.blk
  rw [e, he] at this
  cases this
theorem FinB.nown {w : World} {B p : Nat} {s : ByteArray} {win cut : Int} {pl i b : Nat} {v5 : Value} (h : FinB w B p s win cut pl i b v5) (g : Nat) (hg : v5.ownBlock = some g) : g ≠ p ∧ g ≠ b := by
  obtain ⟨cur, hc⟩ := own_ty h.row hg
  refine ⟨ne_of_ty hc h.blk (by decide), fun e => ?_⟩
  obtain ⟨es, clock, he⟩ := h.map.obj
  rw [e, he] at hc
  cases hc
theorem FinB.fresh {w w' : World} {B p : Nat} {s : ByteArray} {win cut : Int} {pl i b : Nat} {v5 : Value} (h : FinB w B p s win cut pl i b v5) (hf : Fr (fun _ => False) w w') : FinB w' B p s win cut pl i b v5 := by
  obtain ⟨es, clock, he⟩ := h.map.obj
  exact ⟨hf.keep h.blk (fun x => x), h.map.same ((hf.keep he (fun x => x)).trans he.symm), own_keep h.row hf (fun _ _ x => x), h.hp, h.hb⟩
theorem FinB.lt {w : World} {B p : Nat} {s : ByteArray} {win cut : Int} {pl i b : Nat} {v5 : Value} (h : FinB w B p s win cut pl i b v5) : p < w.heap.size := lt_of_block h.blk
/-- The place moved on. -/
theorem FinB.move {w : World} {B p : Nat} {s : ByteArray} {win cut : Int} {pl i b : Nat} {v5 : Value} (h : FinB w B p s win cut pl i b v5) (q : Nat) : FinB (w.setCell ⟨p, 3, none⟩ (.int .i64 (q : Int))) B p s win cut q i b v5 := by
  have hf := (Fr.refl (fun k => k = p) w).setCell ⟨p, 3, none⟩ (.int .i64 (q : Int)) (.inl rfl)
  obtain ⟨es, clock, he⟩ := h.map.obj
  refine ⟨?_, h.map.same ((hf.keep he (fun e => h.npb e.symm)).trans he.symm), own_keep h.row hf (fun g hg e => (h.nown g hg).1 e), h.hp, h.hb⟩
  have := block_setCell h.blk (.int .i64 (q : Int)) (off := 3)
  exact this

set_option maxHeartbeats 2000000 in
set_option maxRecDepth 100000 in
theorem chnew_is (s : ByteArray) (win cut : Int) (w : World) :
    Calls Try.prog 9 #[.string s, .int .i64 win, .int .i64 cut] w fun e w' => ∃ p b, e = .returned (.pointer (some ⟨p, 0, none⟩)) ∧ FinB w' w.heap.size p s win cut 0 0 b (.slice none 0 0) ∧ Fr (fun _ => False) w w' := by
  have hmk : (Instr.makeMap 42 none).run Try.prog w = .ok (.map (some w.heap.size)) (w.alloc (.map #[] 0)) := run_makeMap _ w
  go_enter Try.func9, Try.ntmps9
  go_wp2
  go_ret
  have hm := MapT.made w s.data.toList
  have hb := heap_alloc_new (w.alloc (.map #[] 0)) (.cells #[.string s, .int .i64 win, .int .i64 cut, .int .i64 0, .map (some w.heap.size), .slice none 0 0] 45)
  refine ⟨w.heap.size + 1, w.heap.size, by simp, ⟨?_, hm.same ?_, ⟨rfl, .inl ⟨rfl, rfl⟩⟩, by omega, Nat.le_refl _⟩, ((Fr.refl _ w).alloc _).alloc _⟩
  · rw [show (w.alloc (.map #[] 0)).heap.size = w.heap.size + 1 by simp] at hb
    exact hb
  · exact Below.heap_alloc (w.alloc (.map #[] 0)) _ w.heap.size (by simp)
theorem place_is {w : World} {B p : Nat} {s : ByteArray} {win cut : Int} {pl i b : Nat} {v5 : Value} (h : FinB w B p s win cut pl i b v5) :
    Calls Try.prog 12 #[.pointer (some ⟨p, 0, none⟩)] w fun e w' => e = .returned (.int .i64 (pl : Int)) ∧ w' = w := by
  have c3 : w.cell? ⟨p, 3, none⟩ = some (.int .i64 (pl : Int)) := cell_of h.blk 3
  clear h
  go_enter Try.func12, Try.ntmps12
  go_wp2
  go_ret
  exact ⟨rfl, rfl⟩
theorem place_nil (w : World) : Calls Try.prog 12 #[.pointer none] w fun e w' => e = .returned (.int .i64 0) ∧ w' = w := by
  go_enter Try.func12, Try.ntmps12
  go_wp2
  go_ret
  exact ⟨rfl, rfl⟩

theorem sub_tri (s : ByteArray) (l : List UInt8) (hl : s.data.toList = l) (i : Nat) (h : i + 3 ≤ s.size) : (s.extract i (i + 3)).data.toList = tri l i := by
  have hln : s.size = l.length := by rw [← hl]; simp
  have e : (s.extract i (i + 3)).data.toList = (l.drop i).take 3 := by
    rw [← hl]
    simp [ByteArray.data_extract]
  have e2 : List.take 3 (List.drop i l) = [l[i]'(by omega), l[i + 1]'(by omega), l[i + 2]'(by omega)] := by
    rw [List.drop_eq_getElem_cons (show i < l.length by omega), List.drop_eq_getElem_cons (show i + 1 < l.length by omega), List.drop_eq_getElem_cons (show i + 1 + 1 < l.length by omega)]
    rfl
  rw [e, e2]
  simp [tri, List.getD, show i < l.length by omega, show i + 1 < l.length by omega, show i + 2 < l.length by omega]

theorem arrayAt3 (w : World) (g cap : Nat) : (Instr.arrayAt 52 (.slice (some ⟨g, 0, none⟩) 3 cap)).run Try.prog w = .ok (.pointer (some ⟨g, 0, none⟩)) w := by
  have hu := Try.runUnderlying52
  simp [Instr.arrayAt, hu]

set_option maxHeartbeats 4000000 in
set_option maxRecDepth 100000 in
theorem enter_is {w : World} {B p : Nat} {s : ByteArray} {win cut : Int} {pl i b : Nat} {v5 : Value} (h : FinB w B p s win cut pl i b v5) (hi : i < s.size) (hs : s.size ≤ 1000) :
    Calls Try.prog 18 #[.pointer (some ⟨p, 0, none⟩), .int .i64 (i : Int)] w fun e w' => ∃ v5', e = .returned (.int .i64 (prv s.data.toList i)) ∧ FinB w' B p s win cut pl (i + 1) b v5' ∧ Fr (fun k => B ≤ k) w w' := by
  obtain ⟨l, hl⟩ : ∃ l, s.data.toList = l := ⟨_, rfl⟩
  have hsz : s.size = l.length := by rw [← hl]; simp
  have hat : ∀ j (h : j < s.size), s[j] = l.getD j 0 := fun j h => by rw [← hl]; exact str_at s j h
  have c0 : w.cell? ⟨p, 0, none⟩ = some (.string s) := cell_of h.blk 0
  have hpl := h.lt
  have H := Lib.hid h
  have Hat := Lib.hid hat
  have Hl := Lib.hid hl
  have Hsz := Lib.hid hsz
  clear h hat hl hsz
  by_cases h3 : i + 3 ≤ s.size
  case' pos =>
    have h3I : (i : Int) + 3 ≤ (s.size : Int) := by omega
    have hsl : (Instr.slice 9 (.string s) (some (.int .i64 (i : Int))) (some (.int .i64 ((i : Int) + 3))) none).run Try.prog w = .ok (.string (s.extract i (i + 3))) w := by
      have h := run_slice_string (P := Try.prog) w 9 s .i64 .i64 (i : Int) ((i : Int) + 3) Try.underlying9 (by omega) (by omega) (by omega)
      rw [h]
      rfl
    have hsub : (s.extract i (i + 3)).data.toList = tri l i := sub_tri s l Hl.out i h3
    obtain ⟨sub, hsb⟩ : ∃ sub, s.extract i (i + 3) = sub := ⟨_, rfl⟩
    rw [hsb] at hsl hsub
    have hsn : sub.size = 3 := by
      have : sub.size = sub.data.toList.length := by simp
      rw [this, hsub]; rfl
    have hcv := Lib.run_convert_string_bytes (P := Try.prog) w 9 53 5 sub Try.underlying9 Try.underlying53 Try.underlying5
    have hfr := fr_made w sub
    have hcell := fun j hj => Lib.bytesWorld_cell w 5 sub j hj
    rw [hsn] at hcv
    have hgl : w.heap.size < (Lib.bytesWorld w 5 sub).heap.size := by rw [Lib.bytesWorld_size]; omega
    generalize Lib.bytesWorld w 5 sub = V1 at *
    generalize grownCap w 3 0 5 = cap at *
    obtain ⟨x, hx⟩ : ∃ x, l.getD i 0 = x := ⟨_, rfl⟩
    obtain ⟨y, hy⟩ : ∃ x, l.getD (i + 1) 0 = x := ⟨_, rfl⟩
    obtain ⟨z, hz⟩ : ∃ x, l.getD (i + 2) 0 = x := ⟨_, rfl⟩
    have htri : tri l i = [x, y, z] := by rw [tri, hx, hy, hz]
    have hat3 := arrayAt3 V1 w.heap.size cap
    have k0 : V1.cell? ⟨w.heap.size, 0, none⟩ = some (.int .u8 (x.toNat : Int)) := by rw [hcell 0 (by omega), hsub, htri]; rfl
    have k1 : V1.cell? ⟨w.heap.size, 1, none⟩ = some (.int .u8 (y.toNat : Int)) := by rw [hcell 1 (by omega), hsub, htri]; rfl
    have k2 : V1.cell? ⟨w.heap.size, 2, none⟩ = some (.int .u8 (z.toNat : Int)) := by rw [hcell 2 (by omega), hsub, htri]; rfl
    have HC := Lib.hid hcell
    have Hsub := Lib.hid hsub
    have Hcv := Lib.hid hcv
    clear hcell hcv hsub
    go_enter Try.func18, Try.ntmps18
    go_upto_region 4 with (refine wpList_cv 9 53 _ rfl rfl _ _ rfl Hcv.out ?_)
    have hV := (H.out.fresh hfr).fresh ((Fr.refl (fun _ => False) V1).alloc (.cells #[.int .u8 (x.toNat : Int), .int .u8 (y.toNat : Int), .int .u8 (z.toNat : Int)] 52))
    have hbK := heap_alloc_new V1 (.cells #[.int .u8 (x.toNat : Int), .int .u8 (y.toNat : Int), .int .u8 (z.toNat : Int)] 52)
    have hfV : Fr (fun k => B ≤ k) w (V1.alloc (.cells #[.int .u8 (x.toNat : Int), .int .u8 (y.toNat : Int), .int .u8 (z.toNat : Int)] 52)) := (hfr.mono (fun _ h => h.elim)).alloc _
    generalize V1.heap.size = pK at *
    generalize V1.alloc (.cells #[.int .u8 (x.toNat : Int), .int .u8 (y.toNat : Int), .int .u8 (z.toNat : Int)] 52) = V at *
    have hvK : vK (tri l i) = .agg #[.int .u8 (x.toNat : Int), .int .u8 (y.toNat : Int), .int .u8 (z.toNat : Int)] := by rw [htri]; rfl
    have hVd := hV.fresh (Fr.refl (fun _ => False) V).drew
    have hVdd := hVd.fresh (Fr.refl (fun _ => False) V.drew).drew
    have hmp := hVd.map
    have hmpd := hVdd.map
    rw [Hl.out] at hmp hmpd
    obtain ⟨v, hlook, hv⟩ := hmp.look i
    obtain ⟨U, hupd, hUm, hUg⟩ := hmpd.upd (by rw [← Hsz.out]; exact h3) (by rw [← Hsz.out]; exact hs)
    rw [hvK] at hlook hupd
    have d0 : V.cell? ⟨pK, 0, none⟩ = some (.int .u8 (x.toNat : Int)) := cell_of hbK 0
    have d1 : V.cell? ⟨pK, 1, none⟩ = some (.int .u8 (y.toNat : Int)) := cell_of hbK 1
    have d2 : V.cell? ⟨pK, 2, none⟩ = some (.int .u8 (z.toNat : Int)) := cell_of hbK 2
    have c4 : V.cell? ⟨p, 4, none⟩ = some (.map (some b)) := cell_of hV.blk 4
    have hUb : U.heap[p]? = some (.cells #[.string s, .int .i64 win, .int .i64 cut, .int .i64 (pl : Int), .map (some b), v5] 45 (0, 0)) := (hUg.block p (lt_of_block hVdd.blk) (fun e => hVdd.npb (by simpa using e))).trans hVdd.blk
    have hUr : U.ownsRow B 3 1 v5 i (aheadV l i) := by
      have hr := hVdd.row
      rw [Hl.out] at hr
      refine own_same hr (fun g hg => hUg.block g ?_ (fun e => (hVdd.nown g hg).2 (by simpa using e)))
      obtain ⟨cur, hc⟩ := own_ty hr hg
      exact lt_of_block hc
    have hUf : Fr (fun k => B ≤ k) w U := (hfV.drew.drew).grown hUg (fun k hk => .inl (by have := H.out.hb; injection hk with hk; omega))
    have UB := Lib.hid hUb
    have UR := Lib.hid hUr
    have UF := Lib.hid hUf
    have UM := Lib.hid hUm
    have hprv : prv l i = (match lastN l (tri l i) i with | some q => (q : Int) | none => -1) := by
      rw [prv, if_pos (by rw [← Hsz.out]; exact h3), lastN_prv l i i (by rw [← Hsz.out]; omega)]
      cases lastN l (tri l i) i <;> rfl
    obtain ⟨PR, hPR⟩ : ∃ PR, prv l i = PR := ⟨_, rfl⟩
    rw [hPR] at hprv
    have HPR := Lib.hid hPR
    clear hV hVd hVdd hmp hmpd hbK hfV hUb hUr hUf hUm hUg hvK htri hx hy hz HC Hsub Hcv hat3 hfr hgl hsb hsl hsn k0 k1 k2 hPR
    cases hlast : lastN l (tri l i) i with
    | some q =>
      rw [hlast] at hprv hlook
      have hq := hv q hlast
      subst hq
      dsimp only at hprv
      have HQ := Lib.hid hprv
      clear hv hlast hprv
      go_region
      go_upto_region 7 with fail
      go_region
      go_upto_region 8 with fail
      rw [← HQ.out]
      obtain ⟨i0, hi0', hz0, hz1, hz2⟩ := info_parts infoI
      have Hi := Lib.hid hi0'
      have Hz0 := Lib.hid hz0
      have Hz1 := Lib.hid hz1
      have Hz2 := Lib.hid hz2
      clear hi0' hz0 hz1 hz2
      obtain ⟨ad, cap5, hv5⟩ := own_any UR.out
      subst hv5
      have hnp : ∀ g, (Value.slice ad i cap5).ownBlock = some g → g ≠ p ∧ g ≠ b := fun g hg => by
        obtain ⟨cur, hc⟩ := own_ty UR.out hg
        refine ⟨ne_of_ty hc UB.out (by decide), fun e => ?_⟩
        obtain ⟨es, clock, he⟩ := UM.out.obj
        rw [e, he] at hc
        cases hc
      have c5 : U.cell? ⟨p, 5, none⟩ = some (.slice ad i cap5) := cell_of UB.out 5
      have Hnp := Lib.hid hnp
      have hnext := aheadV_next l i
      rw [HPR.out] at hnext
      have Hnx := Lib.hid hnext
      clear hnp hnext
      go_wp2_with (at_builtin; refine wpList_append_my _ rfl _ _ 43 rfl B 3 i0 (.int .i64 0) 1 8 Try.underlying43 Hi.out Hz0.out Hz1.out Hz2.out rfl (by decide) (.slice ad i cap5) i _ (by rfl) (UR.out.alloc _) ⟨_, 0, none⟩ 1 1 [.int .i64 PR] (by rfl) (by rfl) (World.news_of_block (cs := #[.int .i64 PR]) (t := 3) (fr := (0, 0)) (heap_alloc_new _ _)) (by simp [Value.oneCell']) (by omega) (by unfold maxLen; omega) (by omega) (by have := UF.out.size; have := H.out.hp; have := H.out.lt; simp; omega) _ rfl ?_; intro g cap2 w2 hown hgrow hat hlt2 hsame; have IB := Lib.hid hown; have hbp : w2.heap[p]? = some (.cells #[.string s, .int .i64 win, .int .i64 cut, .int .i64 (pl : Int), .map (some b), .slice ad i cap5] 45 (0, 0)) := (hgrow.block p (by have := lt_of_block UB.out; simp; omega) (fun e => (Hnp.out p e.symm).1 rfl)).trans (block_alloc UB.out); have c5n : w2.cell? ⟨p, 5, none⟩ = some (.slice ad i cap5) := cell_of hbp 5; have f5n := free_of hbp 5; have IP := Lib.hid hbp; have IM : Hid (MapT w2 b l (i + 1)) := (by { obtain ⟨es, clock, he⟩ := UM.out.obj; exact UM.out.same ((hgrow.block b (by have := lt_of_block he; simp; omega) (fun e => (Hnp.out b e.symm).2 rfl)).trans ((block_alloc he).trans he.symm)) }); have IF : Hid (Fr (fun k => B ≤ k) w w2) := Lib.hid ((UF.out.alloc _).grown hgrow (fun k hk => .inl (own_base UR.out hk))); clear hown hgrow hat hlt2 hsame hbp)
      go_ret
      have hfr := (Fr.refl (fun k => k = p) w2).setCell ⟨p, 5, none⟩ (.slice (some ⟨g, 0, none⟩) (i + 1) cap2) (.inl rfl)
      obtain ⟨cur, hgc⟩ := own_ty IB.out (g := g) rfl
      refine ⟨_, by rw [Hl.out, HPR.out]; rfl, ⟨block_setCell IP.out _ (off := 5), ?_, ?_, H.out.hp, H.out.hb⟩, IF.out.setCell _ _ (.inl H.out.hp)⟩
      · rw [Hl.out]
        obtain ⟨es, clock, he⟩ := IM.out.obj
        exact IM.out.same ((hfr.keep he (fun e => by rw [e] at he; rw [IP.out] at he; cases he)).trans he.symm)
      · rw [Hl.out, Hnx.out]
        exact own_keep IB.out hfr (fun k hk e => by
          have hk2 : g = k := by simpa [Value.ownBlock] using hk
          rw [e] at hk2
          exact ne_of_ty hgc IP.out (by decide) hk2)
    | none =>
      rw [hlast] at hprv hlook
      dsimp only at hprv
      have HQ := Lib.hid hprv
      clear hv hlast hprv
      go_region
      go_upto_region 7 with fail
      go_region
      go_upto_region 8 with fail
      rw [← HQ.out]
      obtain ⟨i0, hi0', hz0, hz1, hz2⟩ := info_parts infoI
      have Hi := Lib.hid hi0'
      have Hz0 := Lib.hid hz0
      have Hz1 := Lib.hid hz1
      have Hz2 := Lib.hid hz2
      clear hi0' hz0 hz1 hz2
      obtain ⟨ad, cap5, hv5⟩ := own_any UR.out
      subst hv5
      have hnp : ∀ g, (Value.slice ad i cap5).ownBlock = some g → g ≠ p ∧ g ≠ b := fun g hg => by
        obtain ⟨cur, hc⟩ := own_ty UR.out hg
        refine ⟨ne_of_ty hc UB.out (by decide), fun e => ?_⟩
        obtain ⟨es, clock, he⟩ := UM.out.obj
        rw [e, he] at hc
        cases hc
      have c5 : U.cell? ⟨p, 5, none⟩ = some (.slice ad i cap5) := cell_of UB.out 5
      have Hnp := Lib.hid hnp
      have hnext := aheadV_next l i
      rw [HPR.out] at hnext
      have Hnx := Lib.hid hnext
      clear hnp hnext
      go_wp2_with (at_builtin; refine wpList_append_my _ rfl _ _ 43 rfl B 3 i0 (.int .i64 0) 1 8 Try.underlying43 Hi.out Hz0.out Hz1.out Hz2.out rfl (by decide) (.slice ad i cap5) i _ (by rfl) (UR.out.alloc _) ⟨_, 0, none⟩ 1 1 [.int .i64 PR] (by rfl) (by rfl) (World.news_of_block (cs := #[.int .i64 PR]) (t := 3) (fr := (0, 0)) (heap_alloc_new _ _)) (by simp [Value.oneCell']) (by omega) (by unfold maxLen; omega) (by omega) (by have := UF.out.size; have := H.out.hp; have := H.out.lt; simp; omega) _ rfl ?_; intro g cap2 w2 hown hgrow hat hlt2 hsame; have IB := Lib.hid hown; have hbp : w2.heap[p]? = some (.cells #[.string s, .int .i64 win, .int .i64 cut, .int .i64 (pl : Int), .map (some b), .slice ad i cap5] 45 (0, 0)) := (hgrow.block p (by have := lt_of_block UB.out; simp; omega) (fun e => (Hnp.out p e.symm).1 rfl)).trans (block_alloc UB.out); have c5n : w2.cell? ⟨p, 5, none⟩ = some (.slice ad i cap5) := cell_of hbp 5; have f5n := free_of hbp 5; have IP := Lib.hid hbp; have IM : Hid (MapT w2 b l (i + 1)) := (by { obtain ⟨es, clock, he⟩ := UM.out.obj; exact UM.out.same ((hgrow.block b (by have := lt_of_block he; simp; omega) (fun e => (Hnp.out b e.symm).2 rfl)).trans ((block_alloc he).trans he.symm)) }); have IF : Hid (Fr (fun k => B ≤ k) w w2) := Lib.hid ((UF.out.alloc _).grown hgrow (fun k hk => .inl (own_base UR.out hk))); clear hown hgrow hat hlt2 hsame hbp)
      go_ret
      have hfr := (Fr.refl (fun k => k = p) w2).setCell ⟨p, 5, none⟩ (.slice (some ⟨g, 0, none⟩) (i + 1) cap2) (.inl rfl)
      obtain ⟨cur, hgc⟩ := own_ty IB.out (g := g) rfl
      refine ⟨_, by rw [Hl.out, HPR.out]; rfl, ⟨block_setCell IP.out _ (off := 5), ?_, ?_, H.out.hp, H.out.hb⟩, IF.out.setCell _ _ (.inl H.out.hp)⟩
      · rw [Hl.out]
        obtain ⟨es, clock, he⟩ := IM.out.obj
        exact IM.out.same ((hfr.keep he (fun e => by rw [e] at he; rw [IP.out] at he; cases he)).trans he.symm)
      · rw [Hl.out, Hnx.out]
        exact own_keep IB.out hfr (fun k hk e => by
          have hk2 : g = k := by simpa [Value.ownBlock] using hk
          rw [e] at hk2
          exact ne_of_ty hgc IP.out (by decide) hk2)
  case' neg =>
    have h3I : ¬ ((i : Int) + 3 ≤ (s.size : Int)) := by omega
    have hUm := H.out.map
    rw [Hl.out] at hUm
    have UM := Lib.hid (hUm.skip (by rw [← Hsz.out]; exact h3))
    have hUr := H.out.row
    rw [Hl.out] at hUr
    have UR := Lib.hid hUr
    have UB := Lib.hid H.out.blk
    have UF : Hid (Fr (fun k => B ≤ k) w w) := Fr.refl _ w
    have hprv : prv l i = -1 := by rw [prv, if_neg (by rw [← Hsz.out]; exact h3)]
    obtain ⟨PR, hPR⟩ : ∃ PR, prv l i = PR := ⟨_, rfl⟩
    rw [hPR] at hprv
    have HPR := Lib.hid hPR
    have HQ := Lib.hid hprv
    clear hUm hUr hprv hPR
    go_enter Try.func18, Try.ntmps18
    go_upto_region 8 with fail
    rw [← HQ.out]
    obtain ⟨i0, hi0', hz0, hz1, hz2⟩ := info_parts infoI
    have Hi := Lib.hid hi0'
    have Hz0 := Lib.hid hz0
    have Hz1 := Lib.hid hz1
    have Hz2 := Lib.hid hz2
    clear hi0' hz0 hz1 hz2
    obtain ⟨ad, cap5, hv5⟩ := own_any UR.out
    subst hv5
    have hnp : ∀ g, (Value.slice ad i cap5).ownBlock = some g → g ≠ p ∧ g ≠ b := fun g hg => by
      obtain ⟨cur, hc⟩ := own_ty UR.out hg
      refine ⟨ne_of_ty hc UB.out (by decide), fun e => ?_⟩
      obtain ⟨es, clock, he⟩ := UM.out.obj
      rw [e, he] at hc
      cases hc
    have c5 : w.cell? ⟨p, 5, none⟩ = some (.slice ad i cap5) := cell_of UB.out 5
    have Hnp := Lib.hid hnp
    have hnext := aheadV_next l i
    rw [HPR.out] at hnext
    have Hnx := Lib.hid hnext
    clear hnp hnext
    go_wp2_with (at_builtin; refine wpList_append_my _ rfl _ _ 43 rfl B 3 i0 (.int .i64 0) 1 8 Try.underlying43 Hi.out Hz0.out Hz1.out Hz2.out rfl (by decide) (.slice ad i cap5) i _ (by rfl) (UR.out.alloc _) ⟨_, 0, none⟩ 1 1 [.int .i64 PR] (by rfl) (by rfl) (World.news_of_block (cs := #[.int .i64 PR]) (t := 3) (fr := (0, 0)) (heap_alloc_new _ _)) (by simp [Value.oneCell']) (by omega) (by unfold maxLen; omega) (by omega) (by have := UF.out.size; have := H.out.hp; have := H.out.lt; simp; omega) _ rfl ?_; intro g cap2 w2 hown hgrow hat hlt2 hsame; have IB := Lib.hid hown; have hbp : w2.heap[p]? = some (.cells #[.string s, .int .i64 win, .int .i64 cut, .int .i64 (pl : Int), .map (some b), .slice ad i cap5] 45 (0, 0)) := (hgrow.block p (by have := lt_of_block UB.out; simp; omega) (fun e => (Hnp.out p e.symm).1 rfl)).trans (block_alloc UB.out); have c5n : w2.cell? ⟨p, 5, none⟩ = some (.slice ad i cap5) := cell_of hbp 5; have f5n := free_of hbp 5; have IP := Lib.hid hbp; have IM : Hid (MapT w2 b l (i + 1)) := (by { obtain ⟨es, clock, he⟩ := UM.out.obj; exact UM.out.same ((hgrow.block b (by have := lt_of_block he; simp; omega) (fun e => (Hnp.out b e.symm).2 rfl)).trans ((block_alloc he).trans he.symm)) }); have IF : Hid (Fr (fun k => B ≤ k) w w2) := Lib.hid ((UF.out.alloc _).grown hgrow (fun k hk => .inl (own_base UR.out hk))); clear hown hgrow hat hlt2 hsame hbp)
    go_ret
    have hfr := (Fr.refl (fun k => k = p) w2).setCell ⟨p, 5, none⟩ (.slice (some ⟨g, 0, none⟩) (i + 1) cap2) (.inl rfl)
    obtain ⟨cur, hgc⟩ := own_ty IB.out (g := g) rfl
    refine ⟨by rw [Hl.out, HPR.out]; rfl, ⟨_, ⟨block_setCell IP.out _ (off := 5), ?_, ?_, H.out.hp, H.out.hb⟩⟩, IF.out.setCell _ _ (.inl H.out.hp)⟩
    · rw [Hl.out]
      obtain ⟨es, clock, he⟩ := IM.out.obj
      exact IM.out.same ((hfr.keep he (fun e => by rw [e] at he; rw [IP.out] at he; cases he)).trans he.symm)
    · rw [Hl.out, Hnx.out]
      exact own_keep IB.out hfr (fun k hk e => by
        have hk2 : g = k := by simpa [Value.ownBlock] using hk
        rw [e] at hk2
        exact ne_of_ty hgc IP.out (by decide) hk2)
end Go.Proofs.Ytjdmkffhhlijnaa
