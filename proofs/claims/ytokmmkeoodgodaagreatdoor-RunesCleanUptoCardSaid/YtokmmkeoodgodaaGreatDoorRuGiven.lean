/-
  THE SIX FUNCTIONS of package runes, in the words of the printed texts: proved, each, in the texts ahead of this one.
-/
import Derived.Test.YtokmmkeoodgodaaGreatDoorRuPunctW
import Derived.Test.YtokmmkeoodgodaaGreatDoorRuCleanW
namespace Go.Proofs.YtokmmkeoodgodaaGreatDoor
open Go.RowKit Go.Lib Go.Proofs.YtokmmkeoodgodaaGreatDoorW.PrintWords Go.Proofs.YtokmmkeoodgodaaGreatDoorW.PrintMore
set_option linter.unusedSimpArgs false
set_option linter.unusedVariables false

theorem spaceI_iff (x : Int) : spaceI x = decide (x = 9 ∨ x = 10 ∨ x = 12 ∨ x = 13 ∨ x = 32 ∨ x = 160 ∨ x = 5760 ∨ x = 8239 ∨ x = 8287 ∨ x = 12288 ∨ (8192 ≤ x ∧ x ≤ 8202)) := by
  unfold spaceI Ru.spaceN
  rw [Bool.eq_iff_iff]
  simp only [Bool.or_eq_true, Bool.and_eq_true, beq_iff_eq, decide_eq_true_eq, or_assoc]
  omega

set_option maxHeartbeats 4000000 in
set_option maxRecDepth 1000000 in
theorem space_all (x : Int) (h0 : -2147483648 ≤ x) (h1 : x ≤ 2147483647) (w : World) : Calls Tryz.prog 13 #[.int .i32 x] w fun e w' => e = .returned (.bool (spaceI x)) ∧ w' = w := by
  obtain ⟨R, hR⟩ : ∃ R, spaceI x = R := ⟨_, rfl⟩
  rw [hR]
  have HR := Lib.hid hR
  clear hR
  go_enter Tryz.func13, Tryz.ntmps13
  go_wp2
  all_goals go_ret
  all_goals refine ⟨?_, rfl⟩
  all_goals rw [← HR.out, spaceI_iff]
  all_goals simp only [beq_iff_eq, beq_eq_false_iff_ne, decide_eq_true_eq, decide_eq_false_iff_not] at *
  all_goals refine congrArg (fun b => Ending.returned (Value.bool b)) ?_
  all_goals first | exact (decide_eq_true (by omega)).symm | exact (decide_eq_false (by omega)).symm | exact decide_eq_decide.2 (by omega)

theorem Pr.runes_Space.calls (a0 : Int) (r : Bool) (w : World) (h : Pr.runes_Space.f a0 = some r) :
    Calls Tryz.prog 13 #[.int .i32 a0] w fun e w' => e = .returned (.bool r) ∧ Below w.heap.size w w' := by
  unfold Pr.runes_Space.f at h
  split at h
  · rename_i hc
    rw [← Option.some.inj h]
    exact (space_all a0 hc.1 hc.2 w).mono fun e w' ⟨h1, h2⟩ => ⟨h1, h2 ▸ Below.refl _ _⟩
  · cases h
theorem Pr.runes_Mark.calls (a0 : Int) (r : Bool) (w : World) (h : Pr.runes_Mark.f a0 = some r) :
    Calls Tryz.prog 17 #[.int .u8 a0] w fun e w' => e = .returned (.bool r) ∧ Below w.heap.size w w' := by
  unfold Pr.runes_Mark.f at h
  split at h
  · rename_i hc
    rw [← Option.some.inj h]
    obtain ⟨n, rfl⟩ := Int.eq_ofNat_of_zero_le hc.1
    exact (mark_at n (by omega) w).mono fun e w' ⟨h1, h2⟩ => ⟨h1, h2 ▸ Below.refl _ _⟩
  · cases h
theorem Pr.runes_Punct.calls (a0 : Int) (r : Bool) (w : World) (h : Pr.runes_Punct.f a0 = some r) :
    Calls Tryz.prog 15 #[.int .i32 a0] w fun e w' => e = .returned (.bool r) ∧ Below w.heap.size w w' := by
  unfold Pr.runes_Punct.f at h
  split at h
  · rename_i hc
    rw [← Option.some.inj h]
    exact punct_at a0 hc.1 hc.2 w
  · cases h
theorem Pr.runes_Lines.calls (a0 : ByteArray) (r : List ByteArray) (w : World) (h : Pr.runes_Lines.f a0 = some r) :
    Calls Tryz.prog 18 #[.string a0] w fun e w' => ∃ v0_ : Value, e = .returned (v0_) ∧ Kd.R Kd.string 9 w' w.heap.size (fun _ => True) v0_ r ∧ Below w.heap.size w w' := by
  unfold Pr.runes_Lines.f at h
  split at h
  · rename_i hc
    rw [← Option.some.inj h]
    exact lines_any a0 hc w
  · cases h
theorem Pr.runes_Clean.calls (A0 : Option Addr) (c0 : Nat) (l0 : List Int) (r : ByteArray) (w : World) (hr0 : Kd.C (Kd.int .u8) w A0 l0.length l0) (_hc0 : l0.length ≤ c0) (h : Pr.runes_Clean.f l0 = some r) :
    Calls Tryz.prog 7 #[.slice A0 l0.length c0] w fun e w' => e = .returned (.string r) ∧ Below w.heap.size w w' := by
  unfold Pr.runes_Clean.f at h
  split at h
  · rename_i hc
    rw [← Option.some.inj h]
    exact clean_any A0 c0 l0 w hr0 hc.1
  · cases h
theorem Pr.runes_Fold.calls (a0 : ByteArray) (r : ByteArray) (w : World) (hT : TT w) (h : Pr.runes_Fold.f a0 = some r) :
    Calls Tryz.prog 10 #[.string a0] w fun e w' => e = .returned (.string r) ∧ Below w.heap.size w w' := by
  unfold Pr.runes_Fold.f at h
  split at h
  · rename_i hc
    rw [← Option.some.inj h]
    exact fold_any a0 w hc hT
  · cases h
end Go.Proofs.YtokmmkeoodgodaaGreatDoor
