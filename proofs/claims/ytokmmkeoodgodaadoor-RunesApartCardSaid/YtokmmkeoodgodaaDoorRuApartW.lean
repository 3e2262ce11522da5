/-
  RunesApart: the walk. No character is both a space and a punctuation, and no letter or digit of ASCII is one of them.
-/
import Derived.Test.YtokmmkeoodgodaaDoorRuShown
namespace Go.Proofs.YtokmmkeoodgodaaDoor
open Go.RowKit Go.Lib Go.Proofs.YtokmmkeoodgodaaDoorW.PrintWords Go.Proofs.YtokmmkeoodgodaaDoorW.PrintMore
set_option linter.unusedSimpArgs false
set_option linter.unusedVariables false

theorem markN_iff (x : Nat) : Ru.markN x = decide ((33 ≤ x ∧ x ≤ 47) ∨ (58 ≤ x ∧ x ≤ 64) ∨ (91 ≤ x ∧ x ≤ 96) ∨ (123 ≤ x ∧ x ≤ 126)) := by
  unfold Ru.markN
  rw [Bool.eq_iff_iff]
  simp only [Bool.or_eq_true, Bool.and_eq_true, decide_eq_true_eq, or_assoc]

theorem space_punct (x : Int) (h : spaceI x = true) : Ru.punctI x = false := by
  rw [spaceI_iff] at h
  have h := of_decide_eq_true h
  rw [Bool.eq_false_iff]
  intro hp
  unfold Ru.punctI Ru.punctN Ru.inN at hp
  rw [markN_iff] at hp
  simp only [Bool.or_eq_true, Bool.and_eq_true, beq_iff_eq, decide_eq_true_eq] at hp
  omega

theorem word_not (c : Nat) (h : (48 ≤ c ∧ c ≤ 57) ∨ (97 ≤ c ∧ c ≤ 122) ∨ (65 ≤ c ∧ c ≤ 90)) : spaceI (c : Int) = false ∧ Ru.markN c = false := by
  rw [spaceI_iff, markN_iff]
  exact ⟨decide_eq_false (by omega), decide_eq_false (by omega)⟩
theorem space_mark (c : Nat) (h : spaceI (c : Int) = true) : Ru.markN c = false := by
  rw [spaceI_iff] at h
  have h := of_decide_eq_true h
  rw [markN_iff]
  exact decide_eq_false (by omega)

set_option maxHeartbeats 4000000 in
set_option maxRecDepth 1000000 in
theorem apart_calls (x : Int) (h0 : -2147483648 ≤ x) (h1 : x ≤ 2147483647) (w : World) (hT : TT w) :
    Calls Tryd.prog 6 #[.int .i32 x] w fun e w' => e = .returned (.bool true) ∧ Below w.heap.size w w' := by
  have HSh := Lib.hid (shown_calls w hT)
  have HX := Lib.hid (fun W => space_all x h0 h1 W)
  have HP := Lib.hid (fun W => punct_at x h0 h1 W)
  go_enter Tryd.func6, Tryd.ntmps6
  go_wp2_with fail
  refine HSh.out.mono ?_
  rintro e w1 ⟨rfl, hb1⟩
  go_wp2_with fail
  go_loopw [4] (fun i wr => ∃ c : Nat, c ≤ 128 ∧ i = .int .i64 c ∧ Below w.heap.size w wr) (fun i _ => 128 - (intOf i).toNat)
  case atStart => exact ⟨0, by omega, rfl, hb1⟩
  case round =>
    obtain ⟨c, hc, rfl, hb⟩ := hrel
    by_cases hlt : c < 128
    · have HS := Lib.hid (fun W => space_all (c : Int) (by omega) (by omega) W)
      have HM := Lib.hid (fun W => mark_at c (by omega) W)
      have fin : ∀ {wr : World}, Below w.heap.size w wr → ∃ c' : Nat, c' ≤ 128 ∧ Value.int .i64 ((c : Int) + 1) = .int .i64 c' ∧ Below w.heap.size w wr := fun h => ⟨c + 1, by omega, by go_num, h⟩
      by_cases hw : (48 ≤ c ∧ c ≤ 57) ∨ (97 ≤ c ∧ c ≤ 122) ∨ (65 ≤ c ∧ c ≤ 90)
      · obtain ⟨e1, e2⟩ := word_not c hw
        rw [e1] at HS
        rw [e2] at HM
        clear e1 e2
        go_wp2_with (first
          | ((with_reducible refine (HS.out _).mono ?_); rintro e w2 ⟨rfl, rfl⟩)
          | ((with_reducible refine (HM.out _).mono ?_); rintro e w2 ⟨rfl, rfl⟩))
        all_goals go_roundw
        all_goals first
          | exact fin hb
          | (simp [intOf]; omega)
      · by_cases hs : spaceI (c : Int) = true
        · have e2 := space_mark c hs
          rw [hs] at HS
          rw [e2] at HM
          clear e2 hs
          go_wp2_with (first
            | ((with_reducible refine (HS.out _).mono ?_); rintro e w2 ⟨rfl, rfl⟩)
            | ((with_reducible refine (HM.out _).mono ?_); rintro e w2 ⟨rfl, rfl⟩))
          all_goals go_roundw
          all_goals first
            | exact fin hb
            | (simp [intOf]; omega)
        · have hs := Bool.eq_false_iff.2 hs
          rw [hs] at HS
          clear hs HM
          go_wp2_with ((with_reducible refine (HS.out _).mono ?_); rintro e w2 ⟨rfl, rfl⟩)
          all_goals go_roundw
          all_goals first
            | exact fin hb
            | (simp [intOf]; omega)
    · obtain rfl : c = 128 := by omega
      by_cases hs : spaceI x = true
      · have hp := space_punct x hs
        rw [hs] at HX
        rw [hp] at HP
        clear hp hs
        go_wp2_with (first
          | ((with_reducible refine (HX.out _).mono ?_); rintro e w2 ⟨rfl, rfl⟩)
          | ((with_reducible refine (HP.out _).mono ?_); rintro e w2 ⟨rfl, hb2⟩))
        go_ret
        exact ⟨rfl, hb.trans (hb2.mono hb.size)⟩
      · have hs := Bool.eq_false_iff.2 hs
        rw [hs] at HX
        clear hs
        go_wp2_with ((with_reducible refine (HX.out _).mono ?_); rintro e w2 ⟨rfl, rfl⟩)
        go_ret
        exact ⟨rfl, hb⟩
end Go.Proofs.YtokmmkeoodgodaaDoor
