/-
  '==' of structs of whole numbers, as one Bool.
-/
import Derived.Test.YtcoddcdiimpndaaDoorProg
import Derived.WalkKit
import Derived.Laws.StructEq
import Derived.KernelRfl
set_option linter.unusedVariables false
set_option linter.unusedSimpArgs false
namespace Go.Proofs.YtcoddcdiimpndaaDoor
open Go.RowKit
section
variable {P : Program} {d : Nat} {xs ys : Array Value} {f : Field} {fs : List Field} {a b : Value} {r s : Bool} {w : World}
theorem eqf_last (hn : (f.name == "_") = false) (ha : (part f.type xs f.offset).run P w = .ok a w) (hb : (part f.type ys f.offset).run P w = .ok b w) (he : (Op.equalIn d f.type a b).run P w = .ok r w) : (Op.eqFields d xs ys [f]).run P w = .ok r w := by
  have hn' : f.name ≠ "_" := by simpa using hn
  simp only [Op.eqFields, if_pos hn', Sem.run_bind, ha, hb, he, Result.andThen_ok]
  cases r <;> simp
theorem eqf_cons (hn : (f.name == "_") = false) (ha : (part f.type xs f.offset).run P w = .ok a w) (hb : (part f.type ys f.offset).run P w = .ok b w) (he : (Op.equalIn d f.type a b).run P w = .ok r w) (hr : (Op.eqFields d xs ys fs).run P w = .ok s w) : (Op.eqFields d xs ys (f :: fs)).run P w = .ok (r && s) w := by
  have hn' : f.name ≠ "_" := by simpa using hn
  rw [Op.eqFields]
  simp only [if_pos hn', Sem.run_bind, ha, hb, he, Result.andThen_ok]
  cases r
  · simp
  · simpa using hr
theorem eqA_of {t : TypeId} {fs : Array Field} (hu : P.underlying t = some (.struct fs)) (hp : P.stoodInHeld t = false) (h : (Op.eqFields d xs ys fs.toList).run P w = .ok r w) : (Op.equalIn (d + 1) t (.agg xs) (.agg ys)).run P w = .ok r w := by
  have hf : P.fieldsOf t = fs := by simp [Program.fieldsOf, hu]
  rw [run_equalIn_struct (P := P) w d t xs ys (by rw [hf]; exact hu) hp, hf]
  exact h
end
theorem eqInP (d : Nat) (w : World) (x0 x1 x2 x3 y0 y1 y2 y3 : Int) :
    (Op.equalIn (d + 2) 23 (.agg #[.int .i64 x0, .int .i64 x1, .int .i64 x2, .int .i64 x3]) (.agg #[.int .i64 y0, .int .i64 y1, .int .i64 y2, .int .i64 y3])).run Tryd.prog w = .ok (x0 == y0 && (x1 == y1 && (x2 == y2 && (x3 == y3)))) w := by
  refine eqA_of Tryd.underlying23 (by kernel_rfl) ?_
  refine eqf_cons (by rfl) (by go_simp; rfl) (by go_simp; rfl) (by go_simp) ?_
  refine eqf_cons (by rfl) (by go_simp; rfl) (by go_simp; rfl) (by go_simp) ?_
  refine eqf_cons (by rfl) (by go_simp; rfl) (by go_simp; rfl) (by go_simp) ?_
  exact eqf_last (by rfl) (by go_simp; rfl) (by go_simp; rfl) (by go_simp)
theorem guardP : Tryd.prog.eqGuardType Tryd.prog.depth 23 = false := by kernel_rfl
theorem eqlP (w : World) (x0 x1 x2 x3 y0 y1 y2 y3 : Int) : (binOp .eql 23 (.agg #[.int .i64 x0, .int .i64 x1, .int .i64 x2, .int .i64 x3]) (.agg #[.int .i64 y0, .int .i64 y1, .int .i64 y2, .int .i64 y3])).run Tryd.prog w = .ok (.bool (x0 == y0 && (x1 == y1 && (x2 == y2 && (x3 == y3))))) w := by
  rw [run_eql_struct, show (10000 : Nat) = 9998 + 2 from rfl, eqInP]; rfl
theorem neqP (w : World) (x0 x1 x2 x3 y0 y1 y2 y3 : Int) : (binOp .neq 23 (.agg #[.int .i64 x0, .int .i64 x1, .int .i64 x2, .int .i64 x3]) (.agg #[.int .i64 y0, .int .i64 y1, .int .i64 y2, .int .i64 y3])).run Tryd.prog w = .ok (.bool (!(x0 == y0 && (x1 == y1 && (x2 == y2 && (x3 == y3)))))) w := by
  rw [run_neq_struct, show (10000 : Nat) = 9998 + 2 from rfl, eqInP]; rfl
theorem eqgP (op : BinOp) (x y : Operand) (xs ys : Array Value) (w : World) : (eqGuard op 23 x y (.agg xs) (.agg ys)).run Tryd.prog w = .ok () w := run_eqGuard_agg w op 23 x y xs ys guardP
theorem eqInS (d : Nat) (w : World) (x0 x1 y0 y1 : Int) :
    (Op.equalIn (d + 2) 41 (.agg #[.int .i64 x0, .int .i64 x1]) (.agg #[.int .i64 y0, .int .i64 y1])).run Tryd.prog w = .ok (x0 == y0 && (x1 == y1)) w := by
  refine eqA_of Tryd.underlying41 (by kernel_rfl) ?_
  refine eqf_cons (by rfl) (by go_simp; rfl) (by go_simp; rfl) (by go_simp) ?_
  exact eqf_last (by rfl) (by go_simp; rfl) (by go_simp; rfl) (by go_simp)
theorem guardS : Tryd.prog.eqGuardType Tryd.prog.depth 41 = false := by kernel_rfl
theorem eqlS (w : World) (x0 x1 y0 y1 : Int) : (binOp .eql 41 (.agg #[.int .i64 x0, .int .i64 x1]) (.agg #[.int .i64 y0, .int .i64 y1])).run Tryd.prog w = .ok (.bool (x0 == y0 && (x1 == y1))) w := by
  rw [run_eql_struct, show (10000 : Nat) = 9998 + 2 from rfl, eqInS]; rfl
theorem neqS (w : World) (x0 x1 y0 y1 : Int) : (binOp .neq 41 (.agg #[.int .i64 x0, .int .i64 x1]) (.agg #[.int .i64 y0, .int .i64 y1])).run Tryd.prog w = .ok (.bool (!(x0 == y0 && (x1 == y1)))) w := by
  rw [run_neq_struct, show (10000 : Nat) = 9998 + 2 from rfl, eqInS]; rfl
theorem eqgS (op : BinOp) (x y : Operand) (xs ys : Array Value) (w : World) : (eqGuard op 41 x y (.agg xs) (.agg ys)).run Tryd.prog w = .ok () w := run_eqGuard_agg w op 41 x y xs ys guardS
end Go.Proofs.YtcoddcdiimpndaaDoor
