/-
  RunesKinds: each character is a space, a mark, a punctuation, or none of these: the pure half.
-/
import Derived.Test.YtokmmkeoodgodaaGreatDoorRuPureZ
import Derived.Test.YtokmmkeoodgodaaGreatDoorRuShown
import Derived.Test.YtokmmkeoodgodaaGreatDoorPr1
namespace Go.Proofs.YtokmmkeoodgodaaGreatDoor
open Go.RowKit Go.Proofs.YtokmmkeoodgodaaGreatDoorW.PrintWords Pr
set_option linter.unusedSimpArgs false
set_option linter.unusedVariables false

theorem RunesKinds_pure (a0 a1 : Int) (h0 : -2147483648 ≤ a0 ∧ a0 ≤ 2147483647) (h1 : 0 ≤ a1 ∧ a1 < 256) : ∃ k, scriptoriumlaw01_RunesKinds.f k a0 a1 = some true := by
  refine ⟨0 + 1, ?_⟩
  have w0 : wrap64 a0 = a0 := w_in _ (by omega) (by omega)
  have w1 : wrap64 a1 = a1 := w_in _ (by omega) (by omega)
  have w2 : wrap32 a1 = a1 := by unfold wrap32; omega
  have s1 : runes_Space.f a0 = some (spaceI a0) := by unfold runes_Space.f; rw [if_pos h0]
  have s2 : runes_Punct.f a0 = some (Ru.punctI a0) := by unfold runes_Punct.f; rw [if_pos h0]
  have s3 : runes_Punct.f a1 = some (Ru.punctI a1) := by unfold runes_Punct.f; rw [if_pos (by omega)]
  have s4 : runes_Mark.f a1 = some (Ru.markN a1.toNat) := by unfold runes_Mark.f; rw [if_pos h1]
  have s5 : scriptoriumlaw01_shown.f = some true := rfl
  unfold scriptoriumlaw01_RunesKinds.f
  simp only [w0, w1, w2, s1, s2, s3, s4, s5, mark_f, space_f, punct_f, Option.bind_some, BEq.rfl, if_true]
  by_cases h : a1 > 127
  · rw [if_pos h]
  · rw [if_neg h, punct_low a1 h1.1 (by omega)]
    simp
end Go.Proofs.YtokmmkeoodgodaaGreatDoor
