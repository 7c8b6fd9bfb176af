/- By an AI agent. What is proved here: the law of rings answers true for every list of boxes that it can be handed. -/
import Derived.Test.YtegoogghlakghaaGreatFl30
import Derived.Test.YtegoogghlakghaaGreatFl31
import Derived.Test.YtegoogghlakghaaGreatFl40
import Derived.Test.YtegoogghlakghaaGreatFl41
import Derived.Test.YtegoogghlakghaaGreatFl50
import Derived.Test.YtegoogghlakghaaGreatFl51
import Derived.Test.YtegoogghlakghaaGreatFl60
import Derived.Test.YtegoogghlakghaaGreatFl61
section
set_option linter.unusedVariables false
set_option linter.unusedSimpArgs false
namespace Go.Lf
open Go Go.Ev Go.Sp Go.Proofs Go.Proofs.YtegoogghlakghaaGreat
/-- the law of rings answers true, whatever it is handed -/
theorem law6 (cl : Bool) (p : Pt) (l : List Box) (k : Int) (r : V) (hk : 0 ≤ k ∧ k < 256) (hr : RawV r) : Pev cx0 6 [.imm false 4 cl (l.map Box.cs), .agg p.cs, .int .u8 k, r] (.bool true) := by
  have hp : r.pure = true := by rcases hr with rfl | ⟨β, clr, rs, rfl, _⟩ <;> rfl
  by_cases hl : l.length < 3 ∨ 6 < l.length
  · exact law6s cl p l k r hp hl hr
  · rcases hr with rfl | ⟨β, clr, rs, rfl, h⟩
    · match l, hl with
      | [], hl => exact absurd (Or.inl (by simp)) hl
      | [_], hl => exact absurd (Or.inl (by simp)) hl
      | [_, _], hl => exact absurd (Or.inl (by simp)) hl
      | [b0, b1, b2], _ => exact law6_3_0 cl p b0 b1 b2 k hk (.inl rfl)
      | [b0, b1, b2, b3], _ => exact law6_4_0 cl p b0 b1 b2 b3 k hk (.inl rfl)
      | [b0, b1, b2, b3, b4], _ => exact law6_5_0 cl p b0 b1 b2 b3 b4 k hk (.inl rfl)
      | [b0, b1, b2, b3, b4, b5], _ => exact law6_6_0 cl p b0 b1 b2 b3 b4 b5 k hk (.inl rfl)
      | _ :: _ :: _ :: _ :: _ :: _ :: _ :: _, hl => exact absurd (Or.inr (by simp)) hl
    · match l, hl with
      | [], hl => exact absurd (Or.inl (by simp)) hl
      | [_], hl => exact absurd (Or.inl (by simp)) hl
      | [_, _], hl => exact absurd (Or.inl (by simp)) hl
      | [b0, b1, b2], _ => exact law6_3_1 cl p b0 b1 b2 k β clr rs hk (.inr ⟨β, clr, rs, rfl, h⟩)
      | [b0, b1, b2, b3], _ => exact law6_4_1 cl p b0 b1 b2 b3 k β clr rs hk (.inr ⟨β, clr, rs, rfl, h⟩)
      | [b0, b1, b2, b3, b4], _ => exact law6_5_1 cl p b0 b1 b2 b3 b4 k β clr rs hk (.inr ⟨β, clr, rs, rfl, h⟩)
      | [b0, b1, b2, b3, b4, b5], _ => exact law6_6_1 cl p b0 b1 b2 b3 b4 b5 k β clr rs hk (.inr ⟨β, clr, rs, rfl, h⟩)
      | _ :: _ :: _ :: _ :: _ :: _ :: _ :: _, hl => exact absurd (Or.inr (by simp)) hl
end Go.Lf
end
