/- Texts of this seat, in one. Conditions: those that each theorem names. -/
import Derived.Test.YthaegbiblblccaaGreatDoorXEntP1
section
/- What the functions of the translation answer, each as a plain Lean function, and that the code comes to it; for a law: its row. Conditions: none but those that each theorem names. Written by a program of this session (wip/xp). -/
namespace Go.Proofs.YthaegbiblblccaaGreatDoor.XEnt
open Go.RowKit Go.Proofs.YthaegbiblblccaaGreatDoorW.PrintWords Go.Proofs.YthaegbiblblccaaGreatDoorW.PrintLast Go.Proofs.YthaegbiblblccaaGreatDoorW.PrintMore
attribute [local go_sem] max2_int min2_int max_two min_two max_three min_three max_four min_four   -- for this text's walks alone

set_option linter.unusedVariables false
set_option linter.unusedSimpArgs false

theorem eqA52 (d : Nat) (w : World) (x0 y0 : ByteArray) (x1 y1 : ByteArray) :
    (Op.equalIn (d + 2) 52 (.agg #[.string x0, .string x1]) (.agg #[.string y0, .string y1])).run Tryz.prog w = .ok (x0.toList == y0.toList && (x1.toList == y1.toList)) w := by
  refine eqA_of Tryz.underlying52 (by kernel_rfl) ?_
  refine eqf_cons (by rfl) (by go_simp; rfl) (by go_simp; rfl) (by go_simp) ?_
  exact eqf_last (by rfl) (by go_simp; rfl) (by go_simp; rfl) (by go_simp)
end Go.Proofs.YthaegbiblblccaaGreatDoor.XEnt
end
section
/- What the functions of the translation answer, each as a plain Lean function, and that the code comes to it; for a law: its row. Conditions: none but those that each theorem names. Written by a program of this session (wip/xp). -/
namespace Go.Proofs.YthaegbiblblccaaGreatDoor.XEnt
open Go.RowKit Go.Proofs.YthaegbiblblccaaGreatDoorW.PrintWords Go.Proofs.YthaegbiblblccaaGreatDoorW.PrintLast Go.Proofs.YthaegbiblblccaaGreatDoorW.PrintMore
attribute [local go_sem] max2_int min2_int max_two min_two max_three min_three max_four min_four   -- for this text's walks alone

set_option linter.unusedVariables false
set_option linter.unusedSimpArgs false

theorem eqA54 (d : Nat) (w : World) (x0 y0 : Int) (x1 y1 : Int) :
    (Op.equalIn (d + 2) 54 (.agg #[.int .u64 x0, .int .i64 x1]) (.agg #[.int .u64 y0, .int .i64 y1])).run Tryz.prog w = .ok (x0 == y0 && (x1 == y1)) w := by
  refine eqA_of Tryz.underlying54 (by kernel_rfl) ?_
  refine eqf_cons (by rfl) (by go_simp; rfl) (by go_simp; rfl) (by go_simp) ?_
  exact eqf_last (by rfl) (by go_simp; rfl) (by go_simp; rfl) (by go_simp)
end Go.Proofs.YthaegbiblblccaaGreatDoor.XEnt
end
section
/- What the functions of the translation answer, each as a plain Lean function, and that the code comes to it; for a law: its row. Conditions: none but those that each theorem names. Written by a program of this session (wip/xp). -/
namespace Go.Proofs.YthaegbiblblccaaGreatDoor.XEnt
open Go.RowKit Go.Proofs.YthaegbiblblccaaGreatDoorW.PrintWords Go.Proofs.YthaegbiblblccaaGreatDoorW.PrintLast Go.Proofs.YthaegbiblblccaaGreatDoorW.PrintMore
attribute [local go_sem] max2_int min2_int max_two min_two max_three min_three max_four min_four   -- for this text's walks alone

set_option linter.unusedVariables false
set_option linter.unusedSimpArgs false

-- NOT PRINTED: function 95 (bytealg_IndexByteString)

-- NOT PRINTED: function 83 (stringslite_IndexByte)

-- NOT PRINTED: function 72 (strings_IndexByte)

-- NOT PRINTED: function 86 (strings_makeASCIISet)

-- NOT PRINTED: function 96 (strings_asciiSet_contains)

-- NOT PRINTED: function 87 (strings_trimLeftASCII)

-- NOT PRINTED: function 88 (strings_trimRightASCII)

-- NOT PRINTED: function 103 (utf8_decodeRuneInStringSlow)

-- NOT PRINTED: function 97 (utf8_DecodeRuneInString)

-- NOT PRINTED: function 118 (bytealg_IndexString)

-- NOT PRINTED: function 104 (strings_IndexRune)

-- NOT PRINTED: function 98 (strings_ContainsRune)

-- NOT PRINTED: function 89 (strings_trimLeftUnicode)

-- NOT PRINTED: function 99 (utf8_DecodeLastRuneInString)

-- NOT PRINTED: function 90 (strings_trimRightUnicode)

-- NOT PRINTED: function 73 (strings_Trim)

end Go.Proofs.YthaegbiblblccaaGreatDoor.XEnt
end
section
/- What the functions of the translation answer, each as a plain Lean function, and that the code comes to it; for a law: its row. Conditions: none but those that each theorem names. Written by a program of this session (wip/xp). -/
namespace Go.Proofs.YthaegbiblblccaaGreatDoor.XEnt
open Go.RowKit Go.Proofs.YthaegbiblblccaaGreatDoorW.PrintWords Go.Proofs.YthaegbiblblccaaGreatDoorW.PrintLast Go.Proofs.YthaegbiblblccaaGreatDoorW.PrintMore
attribute [local go_sem] max2_int min2_int max_two min_two max_three min_three max_four min_four   -- for this text's walks alone

set_option linter.unusedVariables false
set_option linter.unusedSimpArgs false

-- NOT PRINTED: function 74 (api_Pair_74)

end Go.Proofs.YthaegbiblblccaaGreatDoor.XEnt
end
