/- FreqBack: the walk of the law. -/
import Derived.Test.YtpddocehjljofaaSe
import Derived.Test.YtpddocehjljofaaFj
import Derived.Test.YtpddocehjljofaaFk
import Derived.Deep.DrawnRows
namespace Go.Proofs.Ytpddocehjljofaa
set_option linter.unusedVariables false
open Go.RowKit Go.My
attribute [local go_sem ↓] Go.wp_at_zero Go.wp_at_succ

def byteU (s : ByteArray) (i : Nat) : UInt8 := if h : i < s.size then s[i] else 0
theorem byteU_at (s : ByteArray) (i : Nat) (h : i < s.size) : byteU s i = s[i] := dif_pos h
def boolsV (l : List Bool) : List Value := l.map Value.bool
def wasO (v : Value) (l : List Bool) : Thing := (fun w => w.ownsRow 0 4 1 v l.length (boolsV l), fun k => v.ownBlock = some k)
theorem wasO_ob (v : Value) (l : List Bool) : Ob (wasO v l) := ⟨fun h hf hs => own_keep h hf hs, fun {a k} h hk => by
  obtain ⟨cur, hc⟩ := own_ty h hk
  exact lt_of_block hc⟩
def blkO (b : Nat) (cs : Array Value) (ty : TypeId) : Thing := (fun w => w.heap[b]? = some (.cells cs ty (0, 0)), one b)
theorem blkO_ob (b : Nat) (cs : Array Value) (ty : TypeId) : Ob (blkO b cs ty) := ⟨fun h hf hs => hf.keep h (hs b rfl), fun {a k} h hk => by cases hk; exact lt_of_block h⟩
theorem own_was (w wr : World) (l : List Thing) (h : Own w wr l) : Own w wr (l ++ [wasO (.slice none 0 0) []]) :=
  h.snoc (Fr.refl _ _) (World.ownsRow_nil _ _ _ _) (wasO_ob _ _) (fun k hk => by cases hk)
theorem was_get {w : World} {g K cap i : Nat} {l : List Bool} {b : Bool} (h : w.ownsRow 0 4 1 (.slice (some ⟨g, 0, none⟩) K cap) l.length (boolsV l)) (hl : l.length = K) (hi : i < K) (hb : l[i]? = some b) : w.cell? ⟨g, i, none⟩ = some (.bool b) := by
  rw [hl] at h
  rw [World.ownsRow.cellAt h i (by omega)]
  unfold boolsV
  rw [List.getElem?_map, hb]
  rfl
/-- What an ask comes to. -/
def askF (x : UInt8 × ByteArray × Bool) : Fq.Ask := ⟨x.1, Fq.stF (byteAt x.2.1) (min x.2.1.size 200), x.2.2⟩
theorem zero_bools : Try.zeroCells100 = boolArr (fun _ => false) := by kernel_rfl
theorem store_bools {cs : List Value} (hl : cs.length = 256) (ha : ∀ v ∈ cs, v.oneCell' = true) (w : World) :
    (storeCells ⟨w.heap.size, 0, none⟩ cs).run Try.prog (w.alloc (.cells Try.zeroCells100 100)) = .ok () ((w.alloc (.cells Try.zeroCells100 100)).setCells w.heap.size 0 cs) := by
  have hb := heap_alloc_new w (.cells Try.zeroCells100 100)
  rw [zero_bools] at hb ⊢
  exact run_storeCells_cells w.heap.size 0 cs 0 _ (fun j hj => by
    rw [hl] at hj
    rw [show 0 + 0 + j = j by omega, cell_of hb j]
    unfold boolArr
    rw [List.getElem?_toArray]
    simp [hj]) (fun j hj => free_of hb _) ha
theorem fr_bools (w : World) (cs : List Value) : Fr (fun _ => False) w ((w.alloc (.cells Try.zeroCells100 100)).setCells w.heap.size 0 cs) :=
  ((Fr.refl (fun _ => False) w).alloc _).trans (fr_setCells (S := fun k => k = w.heap.size) _ rfl cs 0 _) (fun k h => .inr (by subst h; exact Nat.le_refl _))
theorem info4 : (Try.prog.info? 4).map (fun i => (i.zero, i.size, i.bytes)) = some (some (.bool false), 1, 1) := by kernel_rfl

set_option maxHeartbeats 8000000 in
set_option maxRecDepth 100000 in
theorem freqBack_walk (s : ByteArray) (hs : s.size ≤ 9223372036854775807) (f : Nat → UInt8 × ByteArray × Bool) (hf : ∀ i, (f i).2.1.size ≤ maxLen) (A : Option Addr) (len cap : Nat) (hlen : len ≤ 9223372036854775807) (w : World)
    (hat : ∀ i, i < len → ∃ b off, A = some ⟨b, off, none⟩ ∧ AskAt w b (off + i * 3) (f i)) :
    Calls Try.prog 11 #[.string s, .slice A len cap] w fun r w' => r = .returned (.bool true) ∧ Fr (fun _ => False) w w' := by
  have Hat := Lib.hid hat
  have Hf := Lib.hid hf
  obtain ⟨T, hT⟩ : ∃ T, Fq.addF (byteU s) = T := ⟨_, rfl⟩
  have hT0 : T 0 = Fq.T.none_ := by rw [← hT]; rfl
  have hT1 : ∀ i, T (i + 1) = (T i).add (byteU s i) := fun i => by rw [← hT]; rfl
  have hTk : ∀ i, (T i).Ok := fun i => by rw [← hT]; exact Fq.addF_ok _ i
  have HT0 := Lib.hid hT0
  have HT1 := Lib.hid hT1
  have HTk := Lib.hid hTk
  clear hat hf hT hT0 hT1 hTk
  go_enter Try.func11, Try.ntmps11
  go_upto_region 3 with (go_at_call 47; refine (speaks05 _).mono ?_; rintro r w1 ⟨rfl, h1⟩; have H1 : Hid (Own w w1 []) := (Own.nil w).fresh h1; clear h1)
  go_upto_region 4 with (first
    | (go_at_call 48; (with_reducible refine (own_tnew H1.out).mono ?_); rintro r w2 ⟨rfl, h⟩; have H2 := Lib.hid h; clear h)
    | (go_at_call 48; (with_reducible refine (own_tnew H2.out).mono ?_); rintro r w3 ⟨rfl, h⟩; have H3 := Lib.hid h; clear h))
  have hst : ∃ p q, w1.heap.size = p ∧ w2.heap.size = q ∧ Own w w3 [tabO p (T 0) (.slice none 0 0) (.slice none 0 0), tabO q (T 0) (.slice none 0 0) (.slice none 0 0)] := ⟨_, _, rfl, rfl, by rw [HT0.out]; exact H3.out⟩
  obtain ⟨p, q, hp, hq, hst⟩ := hst
  rw [hp, hq]
  have Hst := Lib.hid hst
  clear hp hq hst H1 H2 H3
  go_upto_block 0 with fail
  go_cut [7] (fun _ wx => ∃ v1 v2 y1 y2, Hid (Own w wx [tabO p (T (min s.size 300)) v1 v2, tabO q (T (min s.size 300)) y1 y2]))
  case first =>
    go_wp2
    go_loopw [7] (fun v7 wr => ∃ (i : Nat) (v1 v2 y1 y2 : Value), i ≤ s.size ∧ i ≤ 300 ∧ v7 = .int .i64 (i : Int) ∧ Hid (Own w wr [tabO p (T i) v1 v2, tabO q (T i) y1 y2])) (fun v7 _ => 300 - (intOf v7).toNat)
    case atStart => exact ⟨0, _, _, _, _, Nat.zero_le _, by omega, rfl, Hst⟩
    case round =>
      obtain ⟨i, v1, v2, y1, y2, hi, hi2, rfl, HS⟩ := hrel
      clear Hst
      by_cases hlt : i < s.size ∧ i < 300
      · obtain ⟨hl1, hl2⟩ := hlt
        have hu := byteU_at s i hl1
        have hnx := HT1.out i
        rw [hu] at hnx
        have ha := own_add HS.out 0 p _ v1 v2 rfl (HTk.out i) (s[i]'hl1)
        rw [← hnx] at ha
        have Ha := Lib.hid ha
        have Hnx := Lib.hid hnx
        have hii : (i : Int) < 300 := by omega
        have hi0 : (0 : Int) ≤ (i : Int) := by omega
        clear ha hu hnx
        go_upto_region 8 with (go_at_call 49; refine Ha.out.mono ?_; rintro r w2 ⟨rfl, v3, v4, h⟩; have HS2 := Lib.hid h; have ha := own_add HS2.out 1 q (T i) y1 y2 rfl (HTk.out i) (s[i]'hl1); rw [← Hnx.out] at ha; have Ha2 := Lib.hid ha; clear h ha)
        go_wp2_with (go_at_call 49; refine Ha2.out.mono ?_; rintro r w3 ⟨rfl, y3, y4, h⟩; have HS3 := Lib.hid h; clear h)
        go_roundw
        case rel => exact ⟨i + 1, v3, v4, y3, y4, by omega, by omega, by go_num, HS3⟩
        case measure => simp [intOf]; omega
      · have hN : i = min s.size 300 := by omega
        rw [hN] at HS
        by_cases hl : i < s.size
        · have hl' : decide (i < s.size) = true := by simpa using hl
          have h80 : decide ((i : Int) < 300) = false := by simp; omega
          clear hlt hN hi hi2 hl
          go_wp2
          go_meet
          exact ⟨v1, v2, y1, y2, HS⟩
        · have hl' : decide (i < s.size) = false := by simpa using hl
          clear hlt hN hi hi2 hl
          go_wp2
          go_meet
          exact ⟨v1, v2, y1, y2, HS⟩
  case rest =>
    obtain ⟨v1, v2, y1, y2, HS⟩ := hcut
    clear Hst
    obtain ⟨U, hU⟩ : ∃ U, T (min s.size 300) = U := ⟨_, rfl⟩
    have hUk := HTk.out (min s.size 300)
    rw [hU] at HS hUk
    clear hU HTk HT1 HT0
    obtain ⟨g, hg⟩ : ∃ g, (fun i => askF (f i)) = g := ⟨_, rfl⟩
    have hgi : ∀ i, g i = askF (f i) := fun i => by rw [← hg]
    have hok := Fq.seqF_ok g hUk
    have hpre := Fq.seqF_prefix g U
    have hnx : ∀ i, Fq.seqF g U (i + 1) = ((Fq.seqF g U i).1 ++ (g i).ops (Fq.seqF g U i).2, (g i).tab (Fq.seqF g U i).2) := fun _ => rfl
    have hw1 : ∀ i, Fq.oksF g U (i + 1) = Fq.oksF g U i ++ [(g i).ok (Fq.seqF g U i).2] := fun _ => rfl
    have hw0 : Fq.oksF g U 0 = [] := rfl
    have hwl := Fq.oksF_len g U
    have hwg := Fq.oksF_get g U
    have hq0 : Fq.seqF g U 0 = ([], U) := rfl
    obtain ⟨SQ, hSQ⟩ : ∃ SQ, Fq.seqF g U = SQ := ⟨_, rfl⟩
    obtain ⟨OK, hOK⟩ : ∃ OK, Fq.oksF g U = OK := ⟨_, rfl⟩
    rw [hSQ] at hok hpre hnx hq0 hw1 hwg
    rw [hOK] at hw1 hw0 hwl hwg
    have Hgi := Lib.hid hgi
    have Hok := Lib.hid hok
    have Hpre := Lib.hid hpre
    have Hnx := Lib.hid hnx
    have Hq0 := Lib.hid hq0
    have Hw1 := Lib.hid hw1
    have Hw0 := Lib.hid hw0
    have Hwl := Lib.hid hwl
    have Hwg := Lib.hid hwg
    clear hg hgi hok hpre hnx hq0 hSQ hOK hw1 hw0 hwl hwg hUk
    go_upto_region 10 with (go_at_call 13; refine (own_enew HS.out).mono ?_; rintro r w5 ⟨rfl, h⟩; have H5 := Lib.hid h; clear h)
    obtain ⟨pe, hp⟩ : ∃ p, wc.heap.size = p := ⟨_, rfl⟩
    rw [hp] at H5 ⊢
    have H6 : Hid (Own w w5 [tabO p (SQ 0).2 v1 v2, tabO q U y1 y2, encO pe (.slice none 0 0) (SQ 0).1, wasO (.slice none 0 0) (OK 0)]) := by rw [Hq0.out, Hw0.out]; exact own_was _ _ _ H5.out
    clear hp H5 HS
    go_upto_block 2 with fail
    go_cut [9, 10] (fun v9 _ wx => ∃ v1 v2 v, Hid (Own w wx [tabO p (SQ (min len 60)).2 v1 v2, tabO q U y1 y2, encO pe v (SQ (min len 60)).1, wasO v9 (OK (min len 60))]))
    case first =>
      go_wp2
      go_loopw [9, 10] (fun v9 v10 wr => ∃ (i : Nat) (v1 v2 v : Value), i ≤ len ∧ i ≤ 60 ∧ v10 = .int .i64 (i : Int) ∧ Hid (Own w wr [tabO p (SQ i).2 v1 v2, tabO q U y1 y2, encO pe v (SQ i).1, wasO v9 (OK i)])) (fun _ v10 _ => 60 - (intOf v10).toNat)
      case atStart => exact ⟨0, _, _, _, Nat.zero_le _, by omega, rfl, H6⟩
      case round =>
        obtain ⟨i, v3, v4, v, hi, hi2, rfl, HS⟩ := hrel
        clear H6
        by_cases hlt : i < len ∧ i < 60
        · obtain ⟨hl1, hl2⟩ := hlt
          obtain ⟨eb, off, rfl, hx⟩ := Hat.out i hl1
          have hfi := Hf.out i
          have hii : (i : Int) < 60 := by omega
          have hi0 : (0 : Int) ≤ (i : Int) := by omega
          have hll : (i : Int) < (len : Int) := by omega
          have hgi := Hgi.out i
          obtain ⟨x, t, m, hfx⟩ : ∃ x t m, f i = (x, t, m) := ⟨_, _, _, rfl⟩
          rw [hfx] at hx hfi hgi
          have c0 := HS.out.fr.cell_ hx.c0 (fun h => h)
          have c1 := HS.out.fr.cell_ hx.c1 (fun h => h)
          have c2 := HS.out.fr.cell_ hx.c2 (fun h => h)
          dsimp only at c0 c1 c2 hfi
          have hset := fun w => sets_walk t (Nat.le_trans hfi (by decide)) w
          obtain ⟨F, hF⟩ : ∃ F, Fq.stF (byteAt t) (min t.size 200) = F := ⟨_, rfl⟩
          obtain ⟨M, hM⟩ : ∃ M, Fq.stN (byteAt t) (min t.size 200) = M := ⟨_, rfl⟩
          have hsum := Fq.st_sum (byteAt t) (byteAt_lt t) (min t.size 200)
          have hgx : g i = ⟨x, F, m⟩ := by rw [hgi, ← hF]; rfl
          rw [hF, hM] at hset hsum
          have Hset := Lib.hid hset
          have Hsum := Lib.hid hsum
          have Hgx := Lib.hid hgx
          obtain ⟨X, hX⟩ : ∃ X, x.toNat = X := ⟨_, rfl⟩
          have HX := Lib.hid hX
          rw [hX] at c0
          clear hx hfi hgi hfx hset hF hM hsum hgx hX
          go_upto_region 15 with fail
          have hst : ∃ W ab, wr.alloc (.cells #[.int .u8 (X : Int), .string t, .bool m] 98) = W ∧ wr.heap.size = ab ∧ Own w W [tabO p (SQ i).2 v3 v4, tabO q U y1 y2, encO pe v (SQ i).1, wasO u9 (OK i), blkO ab #[.int .u8 (X : Int), .string t, .bool m] 98] ∧ W.heap[ab]? = some (.cells #[.int .u8 (X : Int), .string t, .bool m] 98 (0, 0)) ∧ w.heap.size ≤ ab :=
            ⟨_, _, rfl, rfl, HS.out.snoc (y := blkO wr.heap.size #[.int .u8 (X : Int), .string t, .bool m] 98) ((Fr.refl _ _).alloc _) (heap_alloc_new wr _) (blkO_ob _ _ _) (fun k hk => by cases hk; exact Nat.le_refl _), heap_alloc_new wr _, HS.out.fr.size⟩
          obtain ⟨W, ab, hW, hab, hst, hb, hla⟩ := hst
          rw [hW, hab]
          have HS2 := Lib.hid hst
          have Hb := Lib.hid hb
          have Hla := Lib.hid hla
          have d0 : W.cell? ⟨ab, 0, none⟩ = some (.int .u8 (X : Int)) := (cell_of hb 0).trans rfl
          have d1 : W.cell? ⟨ab, 1, none⟩ = some (.string t) := (cell_of hb 1).trans rfl
          have d2 : W.cell? ⟨ab, 2, none⟩ = some (.bool m) := (cell_of hb 2).trans rfl
          clear hW hab hst hb hla c0 c1 c2 HS
          obtain ⟨cs, hcs⟩ : ∃ cs, (boolArr F).toList = cs := ⟨_, rfl⟩
          have hbF : boolArr F = cs.toArray := by rw [← hcs]
          have hlen : cs.length = 256 := by rw [← hcs]; simp [boolArr]
          have hall : ∀ v ∈ cs, v.oneCell' = true := fun v hv => by
            rw [← hcs] at hv
            simp only [boolArr, List.mem_map] at hv
            obtain ⟨i, _, rfl⟩ := hv
            rfl
          have HbF := Lib.hid hbF
          have Hlen := Lib.hid hlen
          have Hall := Lib.hid hall
          clear hcs hbF hlen hall
          have hlen2 : cs.length = 256 := Hlen.out
          go_upto_region 16 with (go_at_call 53; refine (Hset.out W).mono ?_; rw [HbF.out]; rintro r w7 ⟨qs, rfl, hq1, hq2, hq3⟩; have HS3 := Lib.hid (HS2.out.fresh hq3); have HQ3 := Lib.hid hq2; have Hq1 := Lib.hid hq1; have Hb3 := Lib.hid (hq3.keep Hb.out (fun h => h)); have hsto := store_bools Hlen.out Hall.out w7; clear hq1 hq2 hq3)
          clear hlen2 hsto
          have hst : ∃ W8, (w7.alloc (.cells Try.zeroCells100 100)).setCells w7.heap.size 0 cs = W8 ∧ Fr (fun _ => False) w7 W8 := ⟨_, rfl, fr_bools w7 cs⟩
          obtain ⟨W8, hW8, hF8⟩ := hst
          rw [hW8]
          have HS4 := Lib.hid (HS3.out.fresh hF8)
          have HQ4 := Lib.hid (HQ3.out.keep hF8 (fun h => h))
          have hb4 := hF8.keep Hb3.out (fun h => h)
          have Hb4 := Lib.hid hb4
          have d0 : W8.cell? ⟨ab, 0, none⟩ = some (.int .u8 (X : Int)) := (cell_of hb4 0).trans rfl
          have d2 : W8.cell? ⟨ab, 2, none⟩ = some (.bool m) := (cell_of hb4 2).trans rfl
          clear hW8 hF8 hb4 HS3 HQ3 Hb3 HS2 Hb HbF Hlen Hall Hset
          go_upto_block 4 with fail
          go_cut [14] from 67 to 91 (fun v14 wx => v14 = .bool ((g i).ok (SQ i).2) ∧ ∃ v1 v2 v, Hid (Own w wx [tabO p (SQ (i + 1)).2 v1 v2, tabO q U y1 y2, encO pe v (SQ (i + 1)).1, wasO u9 (OK i)]))
          case first =>
            have hlq : (SQ i).1.length ≤ 90000000 := Nat.le_trans (Hok.out i).2.2 (by omega)
            have hnx := Hnx.out i
            rw [Hgx.out] at hnx
            have hand : NotAt W8 (.pointer (some ⟨qs, 0, none⟩)) F M := .some_ qs M F HQ4.out
            have hXl : X < 256 := by rw [← HX.out]; exact x.toNat_lt
            cases m
            · have hput := own_put HS4.out 0 2 p pe (SQ i).2 v3 v4 v (SQ i).1 rfl rfl (Hok.out i).2.1 hlq _ F M hand x
              rw [HX.out] at hput
              have Hput := Lib.hid hput
              have Hnxi := Lib.hid hnx
              clear hput hnx hlq hand hXl
              go_upto_region 19 with (go_at_call 59; refine Hput.out.mono ?_; rintro r w9 ⟨rfl, v5, h⟩; have HS5 := Lib.hid h; clear h)
              have hb9 : w9.heap[ab]? = _ := HS5.out.get 4 rfl
              have e0 : w9.cell? ⟨ab, 0, none⟩ = some (.int .u8 (X : Int)) := (cell_of hb9 0).trans rfl
              clear hb9
              have hadd := own_add HS5.out 0 p (SQ i).2 v3 v4 rfl (Hok.out i).2.1 x
              rw [HX.out] at hadd
              have Hadd := Lib.hid hadd
              clear hadd
              go_wp2_with (go_at_call 49; refine Hadd.out.mono ?_; rintro r w10 ⟨rfl, v6, v7, h⟩; have HS6 := Lib.hid h; clear h)
              go_meet
              refine ⟨by rw [Hgx.out]; rfl, v6, v7, v5, ?_⟩
              rw [Hnxi.out]
              exact HS6.out.sub 4
            · have hhas := set_has _ F M X W8 hand hXl
              have Hhas := Lib.hid hhas
              clear hhas
              cases hFX : F X
              · have hput := own_put_any HS4.out 2 pe v (SQ i).1 rfl hlq _ F M hand Hsum.out x (by rw [HX.out]; exact hFX)
                rw [HX.out] at hput
                have Hput := Lib.hid hput
                rw [hFX] at Hhas
                have hop : Fq.Ask.ops ⟨x, F, true⟩ (SQ i).2 = [Fq.anyOp x F] := by unfold Fq.Ask.ops; simp [HX.out, hFX]
                rw [hop] at hnx
                have Hnxi := Lib.hid hnx
                clear hput hnx hlq hand hXl hFX hop
                go_wp2_with (first
                  | (go_at_call 55; refine Hhas.out.mono ?_; rintro r w9 ⟨rfl, rfl⟩)
                  | (go_at_call 56; refine Hput.out.mono ?_; rintro r w9 ⟨rfl, v5, h⟩; have HS5 := Lib.hid h; clear h))
                go_meet
                refine ⟨by rw [Hgx.out]; rfl, v3, v4, v5, ?_⟩
                rw [Hnxi.out]
                exact HS5.out.sub 4
              · rw [hFX] at Hhas
                have hop : Fq.Ask.ops ⟨x, F, true⟩ (SQ i).2 = [] := by unfold Fq.Ask.ops; simp [HX.out, hFX]
                rw [hop, List.append_nil] at hnx
                have Hnxi := Lib.hid hnx
                clear hnx hlq hand hXl hFX hop
                go_wp2_with (go_at_call 55; refine Hhas.out.mono ?_; rintro r w9 ⟨rfl, rfl⟩)
                go_meet
                refine ⟨by rw [Hgx.out]; rfl, v3, v4, v, ?_⟩
                rw [Hnxi.out]
                exact HS4.out.sub 4
          case rest =>
            obtain ⟨rfl, v5, v6, v7, HS5⟩ := hcut
            clear HS4 HQ4 Hb4 d0 d2
            obtain ⟨b, hb⟩ : ∃ b, (g i).ok (SQ i).2 = b := ⟨_, rfl⟩
            rw [hb]
            have hw1 := Hw1.out i
            rw [hb] at hw1
            have Hw1i := Lib.hid hw1
            have hwl := Hwl.out i
            have hown : wc.ownsRow 0 4 1 u9 i (boolsV (OK i)) := by have h := HS5.out.get 3 rfl; rw [show (wasO u9 (OK i)).1 wc = wc.ownsRow 0 4 1 u9 (OK i).length (boolsV (OK i)) from rfl, hwl] at h; exact h
            have Hown := Lib.hid hown
            clear hw1 hwl hown hb
            obtain ⟨i4, ki, kz0, kz1, kz2⟩ := info_parts info4
            have Ki := Lib.hid ki
            have Kz0 := Lib.hid kz0
            have Kz1 := Lib.hid kz1
            have Kz2 := Lib.hid kz2
            have Hb1 : Hid (i + 1 ≤ maxLen) := by show _ ≤ _; unfold maxLen; omega
            have Hb2 : Hid ((i + 1) * 1 ≤ 140737488355328) := by show _ ≤ _; omega
            clear ki kz0 kz1 kz2
            go_upto_region 22 with fail
            go_wp2_with (at_builtin; refine wpList_append_all _ rfl _ _ 110 rfl 0 4 i4 (.bool false) 1 1 Try.underlying110 Ki.out Kz0.out Kz1.out Kz2.out rfl (by decide) u9 i (boolsV (OK i)) (by rfl) (own_keep (S := fun _ => False) Hown.out ((Fr.refl _ _).alloc _) (fun _ _ h => h)) (some ⟨wc.heap.size, 0, none⟩) 1 1 [.bool b] (by rfl) (by rfl) (fun _ => ⟨_, rfl, news_at (heap_alloc_new wc _)⟩) (by simp [Value.oneCell']) Hb1.out Hb2.out (Nat.zero_le _) ?_; intro A9 q9 w9 hap; have Hap := Lib.hid hap; clear hap)
            go_roundw
            case rel =>
              refine ⟨i + 1, v5, v6, v7, by omega, by omega, by go_num, ?_⟩
              have hfr : Fr (fun k => u9.ownBlock = some k) wc w9 := ((Fr.refl (fun k => u9.ownBlock = some k) wc).alloc _).trans Hap.out.fr (fun k h => .inl h)
              exact HS5.out.turn 3 (x := wasO u9 (OK i)) (y := wasO _ (OK (i + 1))) rfl ⟨hfr, fun k hk => (Hap.out.foot k hk).imp id (fun h => Nat.le_trans (Fr.size ((Fr.refl (fun _ => False) wc).alloc _)) h)⟩ (by
                  show World.ownsRow _ 0 4 1 _ (OK (i + 1)).length (boolsV (OK (i + 1)))
                  rw [Hwl.out, Hw1i.out]
                  have := Hap.out.own
                  simpa [boolsV] using this) (wasO_ob _ _)
            case measure => simp [intOf]; omega
        · have hN : i = min len 60 := by omega
          rw [hN] at HS
          by_cases hl : i < len
          · have hl' : decide (i < len) = true := by simpa using hl
            have h80 : decide ((i : Int) < 60) = false := by simp; omega
            clear hlt hN hi hi2 hl
            go_wp2
            go_meet
            exact ⟨v3, v4, v, HS⟩
          · have hl' : decide (i < len) = false := by simpa using hl
            clear hlt hN hi hi2 hl
            go_wp2
            go_meet
            exact ⟨v3, v4, v, HS⟩
    case rest =>
      obtain ⟨v3, v4, v, HS⟩ := hcut
      clear H6
      obtain ⟨K, hK⟩ : ∃ K, min len 60 = K := ⟨_, rfl⟩
      have hKl : K ≤ len := by omega
      have hK60 : K ≤ 60 := by omega
      rw [hK] at HS
      obtain ⟨O, PT, hq⟩ : ∃ O PT, SQ K = (O, PT) := ⟨_, _, rfl⟩
      have hok := Hok.out K
      rw [hq] at HS hok
      dsimp only at HS hok
      obtain ⟨ho1, ho2, ho3⟩ := hok
      have hB := Rc.bytes_is ho1
      have hBl : (Rc.bytes O).length ≤ 1000000000 := by
        rw [hB.l]
        have := run_k Rc.A.start O
        have h0 : Rc.A.start.k = 0 := rfl
        omega
      have hend := own_end HS.out 2 pe v O rfl (by omega)
      obtain ⟨B, hBB⟩ : ∃ B, Rc.bytes O = B := ⟨_, rfl⟩
      rw [hBB] at hB hend hBl
      obtain ⟨a9, cap9, hv9, ha9⟩ := own_val (show wc.ownsRow 0 4 1 u9 (OK K).length (boolsV (OK K)) from HS.out.get 3 rfl)
      rw [Hwl.out] at hv9 ha9
      subst hv9
      have Ha9 := Lib.hid ha9
      have Hend := Lib.hid hend
      have HB := Lib.hid hB
      have HBl := Lib.hid hBl
      have Ho1 := Lib.hid ho1
      have Hq := Lib.hid hq
      clear hq ho1 ho2 ho3 hB hend hBl hBB hK ha9
      go_upto_region 24 with (first
        | (go_at_call 22; refine Hend.out.mono ?_; rintro r w6 ⟨rfl, h⟩; have HS6 := Lib.hid h; clear h)
        | (go_at_call 24; refine (own_dnew HS6.out B HBl.out).mono ?_; rintro r w7 ⟨rfl, h⟩; have HS7 := Lib.hid h; clear h))
      obtain ⟨pd, hpd⟩ : ∃ pd, w6.heap.size = pd := ⟨_, rfl⟩
      rw [hpd] at HS7 ⊢
      have hrel0 : Rc.RelD B [] (Rc.D.read B) (Rc.A.start.run (SQ 0).1) := by
        rw [Hq0.out]
        have := HB.out.start Ho1.out []
        rw [List.append_nil] at this
        exact this
      have Hrel0 := Lib.hid hrel0
      have HS8 : Hid (Own w w7 [tabO p PT v3 v4, tabO q (SQ 0).2 y1 y2, encO pe v O, wasO (.slice a9 K cap9) (OK K), decO pd (Rc.D.read B)]) := by rw [Hq0.out]; exact HS7.out
      clear hpd hrel0 HS HS6 HS7 Hend
      go_upto_block 5 with fail
      go_cut [16] (fun _ wx => ∃ d y1 y2, Hid (Own w wx [tabO p PT v3 v4, tabO q (SQ K).2 y1 y2, encO pe v O, wasO (.slice a9 K cap9) (OK K), decO pd d]) ∧ Hid (Rc.RelD B [] d (Rc.A.start.run (SQ K).1)))
      case first =>
        go_wp2
        go_loopw [16] (fun v16 wr => ∃ (i : Nat) (d : Rc.D) (y1 y2 : Value), i ≤ K ∧ v16 = .int .i64 (i : Int) ∧ Hid (Own w wr [tabO p PT v3 v4, tabO q (SQ i).2 y1 y2, encO pe v O, wasO (.slice a9 K cap9) (OK K), decO pd d]) ∧ Hid (Rc.RelD B [] d (Rc.A.start.run (SQ i).1))) (fun v16 _ => 60 - (intOf v16).toNat)
        case atStart => exact ⟨0, _, _, _, Nat.zero_le _, rfl, HS8, Hrel0⟩
        case round =>
          obtain ⟨i, d, z1, z2, hi, rfl, HS, HR⟩ := hrel
          clear HS8 Hrel0
          by_cases hlt : i < K
          · have hl1 : i < len := by omega
            obtain ⟨eb, off, rfl, hx⟩ := Hat.out i hl1
            have hfi := Hf.out i
            have hii : (i : Int) < 60 := by omega
            have hi0 : (0 : Int) ≤ (i : Int) := by omega
            have hll : (i : Int) < (len : Int) := by omega
            have hlk : (i : Int) < (K : Int) := by omega
            have hgi := Hgi.out i
            obtain ⟨g9, rfl⟩ := Ha9.out (by omega)
            have hin : Rc.In B (Rc.A.start.run (SQ (i + 1)).1) := by
              obtain ⟨l, hl⟩ := Hpre.out (i + 1) K hlt
              rw [Hq.out] at hl
              dsimp only at hl
              have h1 := HB.out
              have h2 := Ho1.out
              rw [hl] at h1 h2
              exact h1.in_ h2
            rw [Hnx.out, Rc.A.run_append] at hin
            have hgood : (Rc.A.start.run (SQ i).1).Good := Rc.A.Good.start.run (Hok.out i).1
            obtain ⟨x, t, m, hfx⟩ : ∃ x t m, f i = (x, t, m) := ⟨_, _, _, rfl⟩
            rw [hfx] at hx hfi hgi
            have c0 := HS.out.fr.cell_ hx.c0 (fun h => h)
            have c1 := HS.out.fr.cell_ hx.c1 (fun h => h)
            have c2 := HS.out.fr.cell_ hx.c2 (fun h => h)
            dsimp only at c0 c1 c2 hfi
            have hset := fun w => sets_walk t (Nat.le_trans hfi (by decide)) w
            obtain ⟨F, hF⟩ : ∃ F, Fq.stF (byteAt t) (min t.size 200) = F := ⟨_, rfl⟩
            obtain ⟨M, hM⟩ : ∃ M, Fq.stN (byteAt t) (min t.size 200) = M := ⟨_, rfl⟩
            have hsum := Fq.st_sum (byteAt t) (byteAt_lt t) (min t.size 200)
            have hgx : g i = ⟨x, F, m⟩ := by rw [hgi, ← hF]; rfl
            rw [hF, hM] at hset hsum
            have Hset := Lib.hid hset
            have Hsum := Lib.hid hsum
            have Hgx := Lib.hid hgx
            rw [hgx] at hin
            have Hin := Lib.hid hin
            have Hgood := Lib.hid hgood
            have Hlt := Lib.hid hlt
            obtain ⟨X, hX⟩ : ∃ X, x.toNat = X := ⟨_, rfl⟩
            have HX := Lib.hid hX
            rw [hX] at c0
            clear hx hfi hgi hfx hset hF hM hsum hgx hX hin hgood
            go_upto_region 28 with fail
            have hst : ∃ W ab, wr.alloc (.cells #[.int .u8 (X : Int), .string t, .bool m] 98) = W ∧ wr.heap.size = ab ∧ Own w W [tabO p PT v3 v4, tabO q (SQ i).2 z1 z2, encO pe v O, wasO (.slice (some ⟨g9, 0, none⟩) K cap9) (OK K), decO pd d, blkO ab #[.int .u8 (X : Int), .string t, .bool m] 98] ∧ W.heap[ab]? = some (.cells #[.int .u8 (X : Int), .string t, .bool m] 98 (0, 0)) :=
              ⟨_, _, rfl, rfl, HS.out.snoc (y := blkO wr.heap.size #[.int .u8 (X : Int), .string t, .bool m] 98) ((Fr.refl _ _).alloc _) (heap_alloc_new wr _) (blkO_ob _ _ _) (fun k hk => by cases hk; exact Nat.le_refl _), heap_alloc_new wr _⟩
            obtain ⟨W, ab, hW, hab, hst, hb⟩ := hst
            rw [hW, hab]
            have HS2 := Lib.hid hst
            have d1 : W.cell? ⟨ab, 1, none⟩ = some (.string t) := (cell_of hb 1).trans rfl
            clear hW hab hst hb c0 c1 c2 HS
            obtain ⟨cs, hcs⟩ : ∃ cs, (boolArr F).toList = cs := ⟨_, rfl⟩
            have hbF : boolArr F = cs.toArray := by rw [← hcs]
            have hlen : cs.length = 256 := by rw [← hcs]; simp [boolArr]
            have hall : ∀ v ∈ cs, v.oneCell' = true := fun v hv => by
              rw [← hcs] at hv
              simp only [boolArr, List.mem_map] at hv
              obtain ⟨i, _, rfl⟩ := hv
              rfl
            have HbF := Lib.hid hbF
            have Hlen := Lib.hid hlen
            have Hall := Lib.hid hall
            clear hcs hbF hlen hall
            have hlen2 : cs.length = 256 := Hlen.out
            go_upto_region 29 with (go_at_call 53; refine (Hset.out W).mono ?_; rw [HbF.out]; rintro r w7 ⟨qs, rfl, hq1, hq2, hq3⟩; have HS3 := Lib.hid (HS2.out.fresh hq3); have HQ3 := Lib.hid hq2; have hsto := store_bools Hlen.out Hall.out w7; clear hq1 hq2 hq3)
            clear hlen2 hsto
            have hst : ∃ W8, (w7.alloc (.cells Try.zeroCells100 100)).setCells w7.heap.size 0 cs = W8 ∧ Fr (fun _ => False) w7 W8 := ⟨_, rfl, fr_bools w7 cs⟩
            obtain ⟨W8, hW8, hF8⟩ := hst
            rw [hW8]
            have HS4 := Lib.hid (HS3.out.fresh hF8)
            have HQ4 := Lib.hid (HQ3.out.keep hF8 (fun h => h))
            have hb4 : W8.heap[ab]? = _ := HS4.out.get 5 rfl
            have d0 : W8.cell? ⟨ab, 0, none⟩ = some (.int .u8 (X : Int)) := (cell_of hb4 0).trans rfl
            have d2 : W8.cell? ⟨ab, 2, none⟩ = some (.bool m) := (cell_of hb4 2).trans rfl
            clear hW8 hF8 hb4 HS3 HQ3 HS2 HbF Hlen Hall Hset d1
            have hnx := Hnx.out i
            rw [Hgx.out] at hnx
            have Hnxi := Lib.hid hnx
            clear hnx
            have hand : NotAt W8 (.pointer (some ⟨qs, 0, none⟩)) F M := .some_ qs M F HQ4.out
            have hXl : X < 256 := by rw [← HX.out]; exact x.toNat_lt
            have hne : ((X : Int) != (X : Int)) = false := by simp
            cases m
            · have hgb := Fq.T.get_back (Hok.out i).2.1 x (bySign F) HR.out Hgood.out Hin.out
              have hget := own_get HS4.out 1 4 q pd (SQ i).2 z1 z2 d rfl rfl (Hok.out i).2.1 _ F M hand
              have hok2 : Fq.Ask.ok ⟨x, F, false⟩ (SQ i).2 = (SQ i).2.isIn x (bySign F) := rfl
              obtain ⟨D, hD⟩ : ∃ D, ((SQ i).2.get (bySign F) d).2 = D := ⟨_, rfl⟩
              rw [hgb.1, hD] at hget
              have hRD := hgb.2
              rw [hD] at hRD
              have HRD := Lib.hid hRD
              cases hin2 : (SQ i).2.isIn x (bySign F)
              · rw [hin2] at hget hok2
                have hget2 : Calls Try.prog 61 #[.pointer (some ⟨q, 0, none⟩), .pointer (some ⟨pd, 0, none⟩), .pointer (some ⟨qs, 0, none⟩)] W8 fun r w' => r = .returned (.tuple #[.int .u8 (0 : Int), .bool false]) ∧ Own w w' [tabO p PT v3 v4, tabO q (SQ i).2 z1 z2, encO pe v O, wasO (.slice (some ⟨g9, 0, none⟩) K cap9) (OK K), decO pd D, blkO ab #[.int .u8 (X : Int), .string t, .bool false] 98] := by
                  first | exact hget | (rw [if_pos rfl] at hget; dsimp only at hget; rw [HX.out] at hget; exact hget)
                have hwb : (OK K)[i]? = some false := by rw [Hwg.out K i Hlt.out, Hgx.out, hok2]
                have Hwb := Lib.hid hwb
                have Hget := Lib.hid hget2
                clear hget hget2 hwb hok2 hgb hRD hD hand hin2
                go_upto_region 31 with (go_at_call 61; refine Hget.out.mono ?_; rintro r w9 ⟨rfl, h⟩; have HS5 := Lib.hid h; clear h)
                have hb9 : w9.heap[ab]? = _ := HS5.out.get 5 rfl
                have e0 : w9.cell? ⟨ab, 0, none⟩ = some (.int .u8 (X : Int)) := (cell_of hb9 0).trans rfl
                have e1 : w9.cell? ⟨g9, i, none⟩ = some (.bool false) := was_get (HS5.out.get 3 rfl) (Hwl.out K) Hlt.out Hwb.out
                have hadd := own_add HS5.out 1 q (SQ i).2 z1 z2 rfl (Hok.out i).2.1 x
                rw [HX.out] at hadd
                have Hadd := Lib.hid hadd
                clear hb9 hadd
                go_wp2_with (go_at_call 49; refine Hadd.out.mono ?_; rintro r w10 ⟨rfl, z3, z4, h⟩; have HS6 := Lib.hid h; clear h)
                go_roundw
                case rel =>
                  refine ⟨i + 1, D, z3, z4, Hlt.out, by go_num, ?_, ?_⟩
                  · rw [Hnxi.out]; exact HS6.out.sub 5
                  · rw [Hnxi.out, Rc.A.run_append]; exact HRD.out
                case measure => simp [intOf]; omega
              · rw [hin2] at hget hok2
                have hget2 : Calls Try.prog 61 #[.pointer (some ⟨q, 0, none⟩), .pointer (some ⟨pd, 0, none⟩), .pointer (some ⟨qs, 0, none⟩)] W8 fun r w' => r = .returned (.tuple #[.int .u8 (X : Int), .bool true]) ∧ Own w w' [tabO p PT v3 v4, tabO q (SQ i).2 z1 z2, encO pe v O, wasO (.slice (some ⟨g9, 0, none⟩) K cap9) (OK K), decO pd D, blkO ab #[.int .u8 (X : Int), .string t, .bool false] 98] := by
                  first | exact hget | (rw [if_pos rfl] at hget; dsimp only at hget; rw [HX.out] at hget; exact hget)
                have hwb : (OK K)[i]? = some true := by rw [Hwg.out K i Hlt.out, Hgx.out, hok2]
                have Hwb := Lib.hid hwb
                have Hget := Lib.hid hget2
                clear hget hget2 hwb hok2 hgb hRD hD hand hin2
                go_upto_region 31 with (go_at_call 61; refine Hget.out.mono ?_; rintro r w9 ⟨rfl, h⟩; have HS5 := Lib.hid h; clear h)
                have hb9 : w9.heap[ab]? = _ := HS5.out.get 5 rfl
                have e0 : w9.cell? ⟨ab, 0, none⟩ = some (.int .u8 (X : Int)) := (cell_of hb9 0).trans rfl
                have e1 : w9.cell? ⟨g9, i, none⟩ = some (.bool true) := was_get (HS5.out.get 3 rfl) (Hwl.out K) Hlt.out Hwb.out
                have hadd := own_add HS5.out 1 q (SQ i).2 z1 z2 rfl (Hok.out i).2.1 x
                rw [HX.out] at hadd
                have Hadd := Lib.hid hadd
                clear hb9 hadd
                go_wp2_with (go_at_call 49; refine Hadd.out.mono ?_; rintro r w10 ⟨rfl, z3, z4, h⟩; have HS6 := Lib.hid h; clear h)
                go_roundw
                case rel =>
                  refine ⟨i + 1, D, z3, z4, Hlt.out, by go_num, ?_, ?_⟩
                  · rw [Hnxi.out]; exact HS6.out.sub 5
                  · rw [Hnxi.out, Rc.A.run_append]; exact HRD.out
                case measure => simp [intOf]; omega
            · have hhas := set_has _ F M X W8 hand hXl
              cases hFX : F X
              · have hFx : F x.toNat = false := by rw [HX.out]; exact hFX
                have hop : Fq.Ask.ops ⟨x, F, true⟩ (SQ i).2 = [Fq.anyOp x F] := by unfold Fq.Ask.ops; simp [hFx]
                have hin3 := Hin.out
                rw [hop] at hin3
                have hgb := Fq.getAny_back x F hFx HR.out Hgood.out hin3
                have hge : (Fq.getAny F d).1 = x := by rw [hgb.1]
                have hget := own_get_any (HS4.out.fresh (Fr.refl _ _).drew) 4 pd d rfl (.pointer (some ⟨qs, 0, none⟩)) F M (.some_ qs M F (HQ4.out.keep (S := fun _ => False) (Fr.refl _ _).drew (fun h => h))) Hsum.out (by have := Fq.below_lt F X 256 hXl hFX; omega)
                rw [hge, HX.out] at hget
                rw [hop] at Hnxi
                obtain ⟨D, hD⟩ : ∃ D, (Fq.getAny F d).2 = D := ⟨_, rfl⟩
                have hRD := hgb.2
                rw [hD] at hget hRD
                rw [hFX] at hhas
                have Hget := Lib.hid hget
                have HRD := Lib.hid hRD
                have Hhas := Lib.hid hhas
                clear hget hRD hD hge hgb hin3 hop hFx hFX hhas hand hXl
                go_upto_region 35 with (go_at_call 55; refine Hhas.out.mono ?_; rintro r w9 ⟨rfl, rfl⟩)
                go_region_held3 (fun w' => w'.cell? ⟨ab, 0, none⟩ = some (.int .u8 (X : Int))) (go_keep) ((go_at_call 62; refine Hget.out.mono ?_; rintro r w9 ⟨rfl, h⟩; have HS5 := Lib.hid h; have hb9 : w9.heap[ab]? = _ := HS5.out.get 5 rfl; have e0 : w9.cell? ⟨ab, 0, none⟩ = some (.int .u8 (X : Int)) := (cell_of hb9 0).trans rfl; clear h hb9))
                all_goals go_wp2
                all_goals go_roundw
                all_goals first | (simp [intOf]; omega) | skip
                all_goals exact ⟨i + 1, D, z1, z2, Hlt.out, by go_num, by rw [Hnxi.out]; exact HS5.out.sub 5, by rw [Hnxi.out, Rc.A.run_append]; exact HRD.out⟩
              · rw [hFX] at hhas
                have hop : Fq.Ask.ops ⟨x, F, true⟩ (SQ i).2 = [] := by unfold Fq.Ask.ops; simp [HX.out, hFX]
                rw [hop, List.append_nil] at Hnxi
                have Hhas := Lib.hid hhas
                clear hop hFX hhas hand hXl
                go_wp2_with (go_at_call 55; refine Hhas.out.mono ?_; rintro r w9 ⟨rfl, rfl⟩)
                go_roundw
                case rel =>
                  refine ⟨i + 1, d, z1, z2, Hlt.out, by go_num, ?_, ?_⟩
                  · rw [Hnxi.out]; exact HS4.out.sub 5
                  · rw [Hnxi.out]; exact HR.out
                case measure => simp [intOf]; omega
          · obtain rfl : i = K := by omega
            go_wp2
            go_meet
            exact ⟨d, z1, z2, HS, HR⟩
      case rest =>
        obtain ⟨d, z1, z2, HS, HR⟩ := hcut
        rw [Hq.out] at HS HR
        dsimp only at HS HR
        have hdone := HB.out.done HR.out
        have hd := HS.out.get (x := decO pd d) 4 rfl
        have hd1 := dec_done pd d wc hd.1
        have hd2 := dec_bad pd d wc hd.1
        rw [hdone.1] at hd1
        rw [hdone.2] at hd2
        have hd1 : Calls Try.prog 30 #[.pointer (some ⟨pd, 0, none⟩)] wc fun r w' => r = .returned (.bool true) ∧ wc = w' := hd1
        have Hd1 := Lib.hid hd1
        have Hd2 := Lib.hid hd2
        clear hd hd1 hd2 hdone
        go_wp2_with (first
          | (go_at_call 30; refine Hd1.out.mono ?_; rintro r w3 ⟨rfl, rfl⟩)
          | (go_at_call 29; refine Hd2.out.mono ?_; rintro r w3 ⟨rfl, rfl⟩))
        go_ret
        exact ⟨rfl, HS.out.fr⟩
end Go.Proofs.Ytpddocehjljofaa
