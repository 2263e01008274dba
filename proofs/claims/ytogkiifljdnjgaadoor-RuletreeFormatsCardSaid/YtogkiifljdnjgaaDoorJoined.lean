/- The parser's contracts, joined. No condition. -/
import Derived.Test.YtogkiifljdnjgaaDoorStmt
import Derived.Test.YtogkiifljdnjgaaDoorOps
import Derived.Test.YtogkiifljdnjgaaDoorSum
import Derived.Test.YtogkiifljdnjgaaDoorArgs
namespace Go.Proofs.YtogkiifljdnjgaaDoor
open Go.RowKit
set_option linter.unusedVariables false

structure AllCon (n : Nat) : Prop where
  expr : ConN 85 .expr n
  conj : ConN 94 .conj n
  neg : ConN 100 .neg n
  comp : ConN 106 .comp n
  sum : ConN 109 .sum n
  prod : ConN 110 .prod n
  atom : ConN 111 .atom n
  args : ConK 112 .args n
  stmts : ConK 33 .stmts n
  stmt : ConN 48 .stmt n
  block : ConN 86 .block n
  value : ∀ sg, ConV sg n
  chosen : ∀ l, ConC l n
theorem conN_zero (f : FuncId) (nt : NT) : ConN f nt 0 := fun w pb s h hr => by have := h.len; omega
theorem conK_zero (f : FuncId) (nt : NT) : ConK f nt 0 := fun w pb s h hr => by have := h.len; omega
theorem all_con : ∀ n, AllCon n
  | 0 => ⟨conN_zero _ _, conN_zero _ _, conN_zero _ _, conN_zero _ _, conN_zero _ _, conN_zero _ _, conN_zero _ _, conK_zero _ _, conK_zero _ _, conN_zero _ _, conN_zero _ _, fun sg w pb s h hr => by have := h.len; omega, fun l w pb s h hr => by have := h.len; omega⟩
  | n + 1 =>
    have h := all_con n
    ⟨expr_con n h.conj, conj_con n h.neg, neg_con n h.neg h.comp, comp_con n h.sum, sum_con n h.prod, prod_con n h.atom, atom_con n h.expr h.args, args_con n h.expr, stmts_con n h.stmt, stmt_con n h.chosen h.value, block_con n h.stmts, fun sg => value_con sg n h.expr, fun l => chosen_con n l h.expr h.block h.chosen⟩
end Go.Proofs.YtogkiifljdnjgaaDoor
