/- The text that row tells is no longer than a text may be. Conditions: none. -/
import Derived.Test.YtbhbbnfkblibfaaDoorXFrmx0
import Derived.Test.YtbhbbnfkblibfaaDoorXFrmx8
namespace Go.Proofs.YtbhbbnfkblibfaaDoor.Bt
open Go Go.RowKit Go.Proofs.YtbhbbnfkblibfaaDoorW.PrintWords Go.Proofs.YtbhbbnfkblibfaaDoorW.PrintLast Go.Proofs.YtbhbbnfkblibfaaDoorW.PrintMore Go.Proofs.YtbhbbnfkblibfaaDoor Go.Proofs.YtbhbbnfkblibfaaDoor.XFrm
theorem row_size_l0 : ∀ (k : Nat) (x0 : Int) (x1 : List ByteArray) (x6 : List S43) (x7 : ByteArray) (x8 : Int) (r : List S43 × ByteArray), x7.size ≤ 9223372036854775807 → postroomlaw6_row.l0 k x0 x1 x6 x7 x8 = some r → r.2.size ≤ 9223372036854775807
  | 0, _, _, _, _, _, _, _, h => by simp [postroomlaw6_row.l0] at h
  | k + 1, x0, x1, x6, x7, x8, r, h7, h => by
    rw [postroomlaw6_row.l0] at h
    split at h
    · split at h
      · split at h
        · split at h
          · split at h
            · obtain ⟨t, _, h⟩ := Option.bind_eq_some_iff.mp h
              split at h
              · split at h
                · rename_i hs
                  exact row_size_l0 k _ _ _ _ _ r (by rw [ByteArray.size_append]; exact hs) h
                · cases h
              · cases h
            · cases h
          · cases h
        · cases h
      · obtain rfl := Option.some.inj h; exact h7
    · obtain rfl := Option.some.inj h; exact h7
theorem row_size {k : Nat} {a0 : Int} {l1 : List ByteArray} {x : List S43} {s : ByteArray} (h : postroomlaw6_row.f k a0 l1 = some (x, s)) : s.size ≤ 9223372036854775807 := row_size_l0 k a0 l1 [] _ 0 (x, s) (by decide) h
end Go.Proofs.YtbhbbnfkblibfaaDoor.Bt
