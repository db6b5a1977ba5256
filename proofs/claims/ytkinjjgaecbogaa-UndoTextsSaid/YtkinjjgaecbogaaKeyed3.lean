/-
  Operations of a drawn region, each by a law of its own: a slice built of nothing, of one element. No program in sight.
-/
import Derived.Test.YtkinjjgaecbogaaKeyed2
import Derived.Test.YtkinjjgaecbogaaOwn
namespace Go.Proofs.Ytkinjjgaecbogaa
open Go.ChangeShapes Go.WideShapes Go.RowKit
section
variable {P : Program} {o : Oper} {a : Act} {w w' : World} {K : Act → World → Prop} {Q : Exit → Act → World → Prop} {E : Prop}
theorem step_build0 {t : TypeId} {n : Nat} (v : Value) {ops : Array Oper} (hgd : o.guard = none) (ho : o.op = .buildSlice t n #[]) (hr : (Instr.buildSlice t n #[]).run P w = .ok v w') (h : K (a.put o.dst v) w') :
    if Region.wanted o (yielded ops a.tmps) = true then Oper.wp P o a w K Q else E := by
  have hw : Region.wanted o (yielded ops a.tmps) = true := by simp [Region.wanted, hgd]
  rw [if_pos hw]
  unfold Oper.wp execOp
  simp only [ho, List.map_toArray, List.map_nil, Array.map_empty, Sem.run_bind, hr, Result.andThen_ok, Sem.run_pure]
  exact h
theorem step_build1 {t : TypeId} {n i : Nat} (x : Operand) (xv v : Value) {ops : Array Oper} (hgd : o.guard = none) (ho : o.op = .buildSlice t n #[(i, x)]) (hx : a.eval x = xv) (hr : (Instr.buildSlice t n #[(i, xv)]).run P w = .ok v w') (h : K (a.put o.dst v) w') :
    if Region.wanted o (yielded ops a.tmps) = true then Oper.wp P o a w K Q else E := by
  have hw : Region.wanted o (yielded ops a.tmps) = true := by simp [Region.wanted, hgd]
  rw [if_pos hw]
  unfold Oper.wp execOp
  simp only [ho, List.map_toArray, List.map_cons, List.map_nil, hx, Sem.run_bind, hr, Result.andThen_ok, Sem.run_pure]
  exact h
theorem wpList_build1 {ops : Array Oper} {rest : List Oper} {t : TypeId} {n i : Nat} (x : Operand) (xv v : Value) (hgd : o.guard = none) (ho : o.op = .buildSlice t n #[(i, x)]) (hx : a.eval x = xv) (hr : (Instr.buildSlice t n #[(i, xv)]).run P w = .ok v w') (h : wpList P ops Q rest (a.put o.dst v) w') :
    wpList P ops Q (o :: rest) a w :=
  wpList_plain hgd fun _ hK => by
    unfold Oper.wp execOp
    simp only [ho, List.map_toArray, List.map_cons, List.map_nil, hx, Sem.run_bind, hr, Result.andThen_ok, Sem.run_pure]
    exact hK _ _ h
end
end Go.Proofs.Ytkinjjgaecbogaa
