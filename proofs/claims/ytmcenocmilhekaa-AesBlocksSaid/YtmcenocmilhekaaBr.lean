/- A row of bytes that a conversion of a text may have made (its end is marked): appended to, and turned to a text again. -/
import Derived.Test.YtmcenocmilhekaaProg
import Derived.Test.YtmcenocmilhekaaArr
import Derived.Test.YtmcenocmilhekaaApp
import Derived.ArgAppend
import Derived.Lib.ConvBytes
import Derived.Laws.BytesArg
import Derived.Laws.Concat
namespace Go.Proofs.Ytmcenocmilhekaa
set_option linter.unusedVariables false
open Go.RowKit Go.My

theorem infoB : (Try.prog.info? 5).map (fun i => (i.zero, i.size, i.bytes)) = some (some (.int .u8 0), 1, 1) := by kernel_rfl
structure BR (w : World) (B : Nat) (v : Value) (bs : List UInt8) (g cap : Nat) (cur : Array Value) (fr : Nat × Nat) : Prop where
  val : v = .slice (some ⟨g, 0, none⟩) bs.length cap
  blk : w.heap[g]? = some (.cells cur 5 fr)
  base : B ≤ g
  le : bs.length ≤ cap
  room : cap ≤ cur.size
  is : ∀ j, j < bs.length → cur[j]? = some (.int .u8 ((bs.getD j 0).toNat : Int))
  free : ∀ j, j < cap → ¬ (fr.1 ≤ j ∧ j < fr.2)
/-- v is a row of these bytes, in a block from B on. -/
def Br (w : World) (B : Nat) (v : Value) (bs : List UInt8) : Prop := ∃ g cap cur fr, BR w B v bs g cap cur fr

theorem BR.cell {w : World} {B : Nat} {v : Value} {bs : List UInt8} {g cap : Nat} {cur : Array Value} {fr : Nat × Nat} (h : BR w B v bs g cap cur fr) (j : Nat) (hj : j < bs.length) : w.cell? ⟨g, j, none⟩ = some (.int .u8 ((bs.getD j 0).toNat : Int)) := by
  rw [cell_of h.blk]; exact h.is j hj
theorem BR.notf {w : World} {B : Nat} {v : Value} {bs : List UInt8} {g cap : Nat} {cur : Array Value} {fr : Nat × Nat} (h : BR w B v bs g cap cur fr) (j : Nat) (hj : j < cap) : w.frozen? ⟨g, j, none⟩ = false := by
  have := h.free j hj
  obtain ⟨lo, hi⟩ := fr
  simp only [World.frozen?, h.blk]
  simpa using this
theorem Br.made (w : World) (B : Nat) (hB : B ≤ w.heap.size) (s : ByteArray) : Br (Lib.bytesWorld w 5 s) B (.slice (some ⟨w.heap.size, 0, none⟩) s.size (grownCap w s.size 0 5)) s.data.toList := by
  have h1 : (Lib.bytesCells w 5 s).size = s.data.size + (grownCap w s.size 0 5 - s.size) := by rw [Lib.bytesCells, Array.size_append, Array.size_map]; simp
  have h2 : s.data.size = s.size := rfl
  have hge := grownCap_ge w s.size 0 5
  refine ⟨_, grownCap w s.size 0 5, _, _, ⟨by simp, Lib.bytesWorld_at_new w 5 s, hB, by simpa using hge, by omega, ?_, ?_⟩⟩
  · intro j hj
    have := Lib.bytesWorld_cell w 5 s j (by simpa using hj)
    rw [cell_of (Lib.bytesWorld_at_new w 5 s)] at this
    exact this
  · intro j hj hh
    have := hh.1
    omega
theorem fr_made (w : World) (s : ByteArray) : Fr (fun _ => False) w (Lib.bytesWorld w 5 s) :=
  ⟨rfl, rfl, rfl, by rw [Lib.bytesWorld_size]; omega, fun k hk _ => Lib.bytesWorld_at_old w 5 s k hk⟩
theorem Br.keep {w w' : World} {B : Nat} {v : Value} {bs : List UInt8} {S : Nat → Prop} (h : Br w B v bs) (hf : Fr S w w') (hS : ∀ k, B ≤ k → ¬ S k) : Br w' B v bs := by
  obtain ⟨g, cap, cur, fr, h⟩ := h
  exact ⟨g, cap, cur, fr, ⟨h.val, hf.keep h.blk (hS g h.base), h.base, h.le, h.room, h.is, h.free⟩⟩
theorem Br.own {w : World} {B n : Nat} {v : Value} {bs : List UInt8} (h : w.ownsRow B 5 1 v n (bytesV bs)) (hn : 0 < bs.length) : Br w B v bs := by
  have hl : bs.length = n := by have := h.1; rw [bytesV_length] at this; omega
  rcases h.2 with ⟨_, e⟩ | ⟨g, cap, cur, rfl, hb, hg, hnc, _, hcs, ht⟩
  · omega
  · subst hl
    refine ⟨g, cap, cur, (0, 0), ⟨rfl, hg, hb, hnc, by omega, fun j hj => ?_, fun j _ => by simp⟩⟩
    have e : (cur.toList.take (bs.length * 1))[j]? = (bytesV bs)[j]? := by rw [ht]
    rw [List.getElem?_take_of_lt (by omega)] at e
    rw [← Array.getElem?_toList, e]
    simp [bytesV, List.getD, hj]
def lenOf : Value → Nat
  | .slice _ n _ => n
  | _ => 0
theorem Br.lenOf {w : World} {B : Nat} {v : Value} {bs : List UInt8} (h : Br w B v bs) : lenOf v = bs.length := by
  obtain ⟨g, cap, cur, fr, h⟩ := h
  rw [h.val]
  rfl
theorem Br.any {w : World} {B : Nat} {v : Value} {bs : List UInt8} (h : Br w B v bs) (n : Nat) (hn : bs.length = n) : ∃ g cap, v = .slice (some ⟨g, 0, none⟩) n cap := by
  obtain ⟨g, cap, cur, fr, h⟩ := h
  exact ⟨g, cap, by rw [h.val, hn]⟩
theorem Br.text {w : World} {B : Nat} {v : Value} {bs : List UInt8} (h : Br w B v bs) : (convert 36 9 v).run Try.prog w = .ok (.string ⟨bs.toArray⟩) w := by
  obtain ⟨g, cap, cur, fr, h⟩ := h
  have e : strOfNums (bs.map fun b => (b.toNat : Int)) = ⟨bs.toArray⟩ := by
    unfold strOfNums
    congr 2
    rw [List.map_map]
    conv => rhs; rw [← List.map_id bs]
    exact List.map_congr_left (fun b _ => by simp)
  rw [← e, h.val]
  refine run_convert_bytes_arg w 36 5 Try.underlying36 Try.underlying5 g 0 bs.length cap _ (by simp) (fun i hi => ?_) 9 Try.underlying9
  rw [Nat.zero_add, h.cell i hi]
  simp [List.getD, hi]
theorem Br.app {w : World} {B : Nat} {v : Value} {bs : List UInt8} (h : Br w B v bs) (hB : B ≤ w.heap.size) (hn : bs.length ≤ 1000000000) (b : UInt8) (x : Value) (hx : x = .int .u8 (b.toNat : Int)) (ty : TypeId) :
    ∃ v' w', (Builtin.append_ #[36, 36] ty #[v, .slice (some ⟨w.heap.size, 0, none⟩) 1 1]).run Try.prog (w.alloc (.cells #[x] 5)) = .ok v' w' ∧ Br w' B v' (bs ++ [b]) ∧ Fr (fun k => B ≤ k) w w' := by
  obtain ⟨i0, hi, hz0, hz1, hz2⟩ := info_parts infoB
  obtain ⟨g, cap, cur, fr, h⟩ := h
  have hlt := lt_of_block h.blk
  have hgk : (w.alloc (.cells #[x] 5)).heap[g]? = some (.cells cur 5 fr) := block_alloc h.blk
  have hnews : ∀ j u, ([x] : List Value)[j]? = some u → (w.alloc (.cells #[x] 5)).cell? ((⟨w.heap.size, 0, none⟩ : Addr).add j) = some u := by
    intro j u hj
    have e : (⟨w.heap.size, 0, none⟩ : Addr).add j = ⟨w.heap.size, j, none⟩ := by unfold Addr.add; split <;> simp_all
    rw [e, cell_of (heap_alloc_new w _)]
    simpa using hj
  have h1 : ∀ u ∈ [x], u.oneCell' = true := by intro u hu; rw [List.mem_singleton.1 hu, hx]; rfl
  rw [h.val]
  by_cases hroom : bs.length + 1 ≤ cap
  · have hr := run_append_room_cells (P := Try.prog) (w.alloc (.cells #[x] 5)) 36 ty 5 i0 Try.underlying36 hi g 0 bs.length cap ⟨w.heap.size, 0, none⟩ 1 1 [x] (by rw [hz1]; rfl) hnews h1 hroom
      (fun j hj => by rw [cell_of hgk]; have : j = 0 := by simpa using hj
                      subst this
                      rw [hz1, Array.getElem?_eq_getElem (by have := h.room; omega)]; rfl)
      (fun j hj => by
        have : j = 0 := by simpa using hj
        subst this
        have e := h.notf bs.length (by omega)
        rw [hz1]
        have e2 := World.frozen?_of_block (w := w) (a := ⟨g, 0 + bs.length * 1 + 0, none⟩) (w' := w.alloc (.cells #[x] 5)) (Below.heap_alloc w _ g hlt)
        rw [e2]
        simpa using e)
    rw [hz1] at hr
    refine ⟨_, _, hr, ⟨g, cap, cur.setIfInBounds bs.length x, fr, ⟨by simp, ?_, h.base, by simpa using hroom, by simpa using h.room, ?_, h.free⟩⟩, ?_⟩
    · have := block_setCell (off := bs.length) hgk x
      simpa [World.setCells] using this
    · intro j hj
      rw [Array.getElem?_setIfInBounds]
      by_cases e : bs.length = j
      · subst e
        rw [if_pos rfl, if_pos (by have := h.room; omega)]
        simp [hx]
      · rw [if_neg e, h.is j (by simp at hj; omega)]
        congr 3
        simp only [List.getD]
        rw [List.getElem?_append_left (by simp at hj; omega)]
    · have := (((Fr.refl (fun k => B ≤ k) w).alloc (.cells #[x] 5)).setCell ⟨g, bs.length, none⟩ x (.inl h.base))
      simpa [World.setCells] using this
  · have hr := run_append_grow (P := Try.prog) (w.alloc (.cells #[x] 5)) 36 ty 5 i0 (.int .u8 0) Try.underlying36 hi hz0 ⟨g, 0, none⟩ bs.length cap (bytesV bs) (by rw [hz1, bytesV_length]; omega)
      (fun j u hj => by
        have e : (⟨g, 0, none⟩ : Addr).add j = ⟨g, j, none⟩ := by unfold Addr.add; split <;> simp_all
        have hjl : j < bs.length := by
          have := (List.getElem?_eq_some_iff.1 hj).1
          rwa [bytesV_length] at this
        rw [e, cell_of hgk, h.is j hjl, ← hj]
        simp [bytesV, List.getD, hjl])
      ⟨w.heap.size, 0, none⟩ 1 1 [x] (by rw [hz1]; rfl) hnews (by omega) (by omega) (growslice_fits (by omega) (by rw [hz2]; omega))
    have hge := grownCap_ge (w.alloc (.cells #[x] 5)) (bs.length + 1) cap 5
    refine ⟨_, _, hr, ⟨_, grownCap (w.alloc (.cells #[x] 5)) (bs.length + 1) cap 5, _, (0, 0), ⟨by simp, heap_alloc_new (w.alloc (.cells #[x] 5)).drew _, by simp; omega, by simpa using hge, ?_, ?_, fun j _ => by simp⟩⟩, ?_⟩
    · simp only [Array.size_append, List.size_toArray, size_zeroCells, bytesV_length]
      simp [Value.cells]
      omega
    · intro j hj
      simp only [List.length_append, List.length_singleton] at hj
      rw [Array.append_assoc]
      by_cases hj2 : j < bs.length
      · rw [Array.getElem?_append_left (by simpa [bytesV] using hj2)]
        simp [bytesV, List.getD, hj2, List.getElem?_append_left]
      · obtain rfl : j = bs.length := by omega
        rw [Array.getElem?_append_right (by simp [bytesV]), Array.getElem?_append_left (by simp [bytesV])]
        simp [bytesV, hx]
    · exact ((Fr.refl (fun k => B ≤ k) w).alloc (.cells #[x] 5)).drew.alloc _
theorem wpList_br {ops : Array Oper} {rest : List Oper} {o : Oper} {a : Act} {Q : Exit → Act → World → Prop} {w : World} {B : Nat} {v : Value} {bs : List UInt8} (h : Br w B v bs) (hB : B ≤ w.heap.size) (hn : bs.length ≤ 1000000000) (b : UInt8) (u : Value) (hu : u = .int .u8 (b.toNat : Int))
    (hgd : o.guard = none) (s x : Operand) (ho : o.op = .call { callee := .builtin .append, args := #[s, x], argTypes := #[36, 36] }) (hs : a.eval s = v) (hx : a.eval x = .slice (some ⟨w.heap.size, 0, none⟩) 1 1)
    (hK : ∀ v' w', Br w' B v' (bs ++ [b]) → Fr (fun k => B ≤ k) w w' → wpList Try.prog ops Q rest (a.put o.dst v') w') : wpList Try.prog ops Q (o :: rest) a (w.alloc (.cells #[u] 5)) := by
  obtain ⟨v', w', hr, h1, h2⟩ := h.app hB hn b u hu o.type
  refine wpList_plain hgd fun K hK2 => ?_
  unfold Oper.wp execOp
  simp only [ho, resolve, invoke, builtin, Sem.run_bind, Sem.run_pure, Result.andThen_ok, List.map_toArray, List.map_cons, List.map_nil, hs, hx, hr]
  exact hK2 _ _ (hK v' w' h1 h2)
theorem wpList_cv {ops : Array Oper} {rest : List Oper} {o : Oper} {a : Act} {w w' : World} {Q : Exit → Act → World → Prop} (src dst : TypeId) (x : Operand) (hgd : o.guard = none) (ho : o.op = .convert src dst x) (u v : Value) (hx : a.eval x = u)
    (hr : (convert src dst u).run Try.prog w = .ok v w') (h : wpList Try.prog ops Q rest (a.put o.dst v) w') : wpList Try.prog ops Q (o :: rest) a w := by
  refine wpList_plain hgd fun K hK => ?_
  unfold Oper.wp execOp
  simp only [ho, hx, Sem.run_bind, Sem.run_pure, Result.andThen_ok, hr]
  exact hK _ _ h
end Go.Proofs.Ytmcenocmilhekaa
