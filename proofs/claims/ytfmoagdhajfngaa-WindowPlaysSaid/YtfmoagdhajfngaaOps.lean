/- Operations at a plain region's list, by their own run: strings joined, bytes to a string. -/
import Derived.WalkKit
import Derived.Laws.Concat
import Derived.Laws.BytesArg
import Derived.Test.YtfmoagdhajfngaaFr
namespace Go.My
open Go.RowKit
section
variable {P : Program} {ops : Array Oper} {rest : List Oper} {o : Oper} {a : Act} {w : World} {Q : Exit → Act → World → Prop}

/-- Two strings joined. -/
theorem wpList_strcat (x y : Operand) (t : TypeId) (hgd : o.guard = none) (ho : o.op = .binOp .add t x y t) (A B : ByteArray) (hx : a.eval x = .string A) (hy : a.eval y = .string B)
    (hs : A.size + B.size ≤ 1000000000) (h : wpList P ops Q rest (a.put o.dst (.string (A ++ B))) w) : wpList P ops Q (o :: rest) a w := by
  refine wpList_plain hgd fun K hK => ?_
  have hr := run_string_add_sum (P := P) w A B (by omega)
  unfold Oper.wp execOp
  simp only [ho, hx, hy, binOp, eqGuard, Sem.run_bind, Sem.run_pure, Result.andThen_ok, hr, Bool.not_false, if_true]
  exact hK _ _ h

/-- A conversion, by its run. -/
theorem wpList_conv (src dst : TypeId) (x : Operand) (hgd : o.guard = none) (ho : o.op = .convert src dst x) (u v : Value) (w' : World) (hx : a.eval x = u)
    (hr : (convert src dst u).run P w = .ok v w') (h : wpList P ops Q rest (a.put o.dst v) w') : wpList P ops Q (o :: rest) a w := by
  refine wpList_plain hgd fun K hK => ?_
  unfold Oper.wp execOp
  simp only [ho, hx, Sem.run_bind, Sem.run_pure, Result.andThen_ok, hr]
  exact hK _ _ h
end
end Go.My
