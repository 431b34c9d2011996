/- Two texts compared: what the printer says of '>', '>=', '<='. Conditions: none. -/
import Derived.Test.YtmbigoeldobaiaaDoorProg
import Derived.Sort.Walk0
import Derived.Laws.Strings
namespace Go.Proofs.YtmbigoeldobaiaaDoor.StrOps
open Go
theorem less_total (a b : List UInt8) : (!(Op.bytesLess a b || a == b)) = Op.bytesLess b a := by
 rw [bytesLess_eq, bytesLess_eq, Bool.eq_iff_iff]
 simp only [Bool.not_eq_true', Bool.or_eq_false_iff, decide_eq_false_iff_not, beq_eq_false_iff_ne, decide_eq_true_eq]
 constructor
 ·rintro ⟨h1, h2⟩
  exact Decidable.byContradiction fun h => h2 (List.le_antisymm (List.not_lt.mp h) (List.not_lt.mp h1))
 ·intro h
  exact ⟨fun h2 => List.lt_irrefl _ (List.lt_trans h h2), fun e => List.lt_irrefl _ (e ▸ h)⟩
@[go_sem high] theorem binOp_string_gtr (t : TypeId) (a b : ByteArray) : binOp .gtr t (.string a) (.string b) = pure (.bool (Op.bytesLess b.toList a.toList)) := by rw [← less_total]; simp [binOp, Op.stringOp]
@[go_sem high] theorem binOp_string_geq (t : TypeId) (a b : ByteArray) : binOp .geq t (.string a) (.string b) = pure (.bool !(Op.bytesLess a.toList b.toList)) := by simp [binOp, Op.stringOp]
@[go_sem high] theorem binOp_string_leq (t : TypeId) (a b : ByteArray) : binOp .leq t (.string a) (.string b) = pure (.bool !(Op.bytesLess b.toList a.toList)) := by
 rw [← less_total, Bool.not_not]; simp [binOp, Op.stringOp]
end Go.Proofs.YtmbigoeldobaiaaDoor.StrOps
