/- Concrete runs: every operation's closure is sound. No condition. -/
import Derived.Test.YtnhbohcjmdfmiaaGreatC24
set_option linter.unusedVariables false
set_option linter.unusedSimpArgs false
namespace Go.Ab
open Go
noncomputable section
variable {e k : Nat} {P : Program} {E : EM}

theorem opC_good (o : Oper) : OpGood P E k (opC (e := e) P E k o.op) o := by
  obtain ⟨dst, op, ty, pos, after, guard⟩ := o
  cases op with
  | move x => exact good_move x
  | assign x => exact good_assign x
  | pick b x y => exact good_pick b x y
  | binOp op t x y ty' => exact good_bin op t ty' x y
  | unOp op t x => exact good_unary op t x
  | convert s d x => exact good_convert s d x
  | extract x i => exact good_extract x i
  | nilCheck x => exact good_nilCheck x
  | load t x => exact good_load t x
  | store t x y => exact good_store t x y
  | fieldAddr s x i => exact good_fieldAddr s x i
  | indexAddr t x ix => exact good_indexAddr t x ix
  | index t x ix => exact good_index t x ix
  | field s x i => exact good_field s x i
  | box t x => exact good_box t x
  | build t parts => exact good_build t parts
  | makeInterface t x => exact good_makeInterface t x
  | typeAssert x xt t ok => exact good_typeAssert x xt t ok
  | alloc t => exact good_alloc t
  | makeSlice t l c => exact good_makeSlice t l c
  | buildSlice t l parts => exact good_buildSlice t l parts
  | slice t x lo hi mx => cases mx with
    | none => exact good_slice t x lo hi
    | some m => exact good_bad
  | makeFunc fn first cap => exact good_makeFunc fn first cap
  | call cl =>
    show OpGood P E k (opCall P E k cl) _
    unfold opCall
    split
    · rename_i h; exact good_len cl h
    · rename_i h; exact good_app2 cl h
    · rename_i h; exact good_copy cl h
    · rename_i h; exact good_min cl h
    · rename_i h; exact good_max cl h
    · rename_i r name h; exact good_invoke cl r name h
    · rename_i g h; exact good_callG cl g h
    · rename_i f h; exact good_callV cl _ h
    · exact good_bad
  | _ => exact good_bad
end
end Go.Ab
