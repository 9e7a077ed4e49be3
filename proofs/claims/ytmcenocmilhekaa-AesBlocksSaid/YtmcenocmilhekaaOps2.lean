/- Operations at a plain region's list, by their own run: strings joined; new rows of bytes to a text. -/
import Derived.Test.YtmcenocmilhekaaBr
namespace Go.Proofs.Ytmcenocmilhekaa
set_option linter.unusedVariables false
open Go.RowKit Go.My

theorem wpList_strcat {ops : Array Oper} {rest : List Oper} {o : Oper} {a : Act} {w : World} {Q : Exit → Act → World → Prop} (x y : Operand) (t : TypeId) (hgd : o.guard = none) (ho : o.op = .binOp .add t x y t) (A B : ByteArray) (hx : a.eval x = .string A) (hy : a.eval y = .string B)
    (hs : A.size + B.size ≤ 1000000000) (h : wpList Try.prog ops Q rest (a.put o.dst (.string (A ++ B))) w) : wpList Try.prog ops Q (o :: rest) a w := by
  refine wpList_plain hgd fun K hK => ?_
  have hr := run_string_add_sum (P := Try.prog) w A B (by omega)
  unfold Oper.wp execOp
  simp only [ho, hx, hy, binOp, eqGuard, Sem.run_bind, Sem.run_pure, Result.andThen_ok, hr, Bool.not_false, if_true]
  exact hK _ _ h
theorem Br.new (w : World) (B : Nat) (hB : B ≤ w.heap.size) (bs : List UInt8) (hb : 0 < bs.length) : Br (w.alloc (.cells (bytesV bs).toArray 5)) B (.slice (some ⟨w.heap.size, 0, none⟩) bs.length bs.length) bs :=
  ⟨w.heap.size, bs.length, _, (0, 0), ⟨rfl, heap_alloc_new w _, hB, Nat.le_refl _, by simp [bytesV], fun j hj => by simp [bytesV, List.getD, hj], fun j _ => by simp⟩⟩
theorem conv_row1 (w : World) (b : UInt8) (x : Int) (hx : x = (b.toNat : Int)) :
    (convert 36 9 (.slice (some ⟨w.heap.size, 0, none⟩) 1 1)).run Try.prog (w.alloc (.cells #[.int .u8 x] 5)) = .ok (.string ⟨#[b]⟩) (w.alloc (.cells #[.int .u8 x] 5)) := by
  subst hx
  exact (Br.new w 0 (Nat.zero_le _) [b] (by simp)).text
theorem conv_row4 (w : World) (a b c d : UInt8) (x y z u : Int) (hx : x = (a.toNat : Int)) (hy : y = (b.toNat : Int)) (hz : z = (c.toNat : Int)) (hu : u = (d.toNat : Int)) :
    (convert 36 9 (.slice (some ⟨w.heap.size, 0, none⟩) 4 4)).run Try.prog (w.alloc (.cells #[.int .u8 x, .int .u8 y, .int .u8 z, .int .u8 u] 5)) =
      .ok (.string ⟨#[a, b, c, d]⟩) (w.alloc (.cells #[.int .u8 x, .int .u8 y, .int .u8 z, .int .u8 u] 5)) := by
  subst hx hy hz hu
  exact (Br.new w 0 (Nat.zero_le _) [a, b, c, d] (by simp)).text
theorem conv_row4d (w : World) (a b c d : UInt8) (x y z u : Int) (hx : x = (a.toNat : Int)) (hy : y = (b.toNat : Int)) (hz : z = (c.toNat : Int)) (hu : u = (d.toNat : Int)) :
    (convert 36 9 (.slice (some ⟨w.heap.size, 0, none⟩) 4 4)).run Try.prog (w.alloc (.cells #[.int .u8 x, .int .u8 y, .int .u8 z, .int .u8 u] 5)).drew =
      .ok (.string ⟨#[a, b, c, d]⟩) (w.alloc (.cells #[.int .u8 x, .int .u8 y, .int .u8 z, .int .u8 u] 5)).drew := by
  subst hx hy hz hu
  exact ((Br.new w 0 (Nat.zero_le _) [a, b, c, d] (by simp)).keep (Fr.refl (fun _ => False) _).drew (fun _ _ h => h)).text
theorem mk_append (a b : List UInt8) : (⟨a.toArray⟩ : ByteArray) ++ (⟨b.toArray⟩ : ByteArray) = ⟨(a ++ b).toArray⟩ := by
  apply ByteArray.ext
  simp
theorem mk_size (a : List UInt8) : (⟨a.toArray⟩ : ByteArray).size = a.length := rfl
theorem of_list (s : ByteArray) (l : List UInt8) (h : s.data.toList = l) : s = ⟨l.toArray⟩ := by
  cases s with
  | mk d => subst h; rfl
end Go.Proofs.Ytmcenocmilhekaa
