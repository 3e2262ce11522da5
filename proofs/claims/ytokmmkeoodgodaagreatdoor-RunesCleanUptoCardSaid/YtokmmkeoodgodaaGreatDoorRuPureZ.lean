/-
  THE PURE HALF of scriptoriumref01.Clean, Fold, Space, Mark, Punct.
-/
import Derived.Test.YtokmmkeoodgodaaGreatDoorRuPureFirst
import Derived.Test.YtokmmkeoodgodaaGreatDoorPr1
import Derived.Test.YtokmmkeoodgodaaGreatDoorPr1
import Derived.Test.YtokmmkeoodgodaaGreatDoorPr1
import Derived.Test.YtokmmkeoodgodaaGreatDoorRuPlain
namespace Go.Proofs.YtokmmkeoodgodaaGreatDoor
open Go.RowKit Go.Proofs.YtokmmkeoodgodaaGreatDoorW.PrintWords Pr
set_option linter.unusedSimpArgs false
set_option linter.unusedVariables false

theorem str8_size (l : List UInt8) : (str8 l).size = l.length := by rw [← Ru.size_list, str8_list]
theorem bytesOf_str8 (l : List UInt8) : bytesOf (str8 l) = nums8 l := by unfold bytesOf; rw [str8_list]; rfl
theorem nums8_append (a b : List UInt8) : nums8 (a ++ b) = nums8 a ++ nums8 b := by unfold nums8; rw [List.map_append]
theorem nums8_length (a : List UInt8) : (nums8 a).length = a.length := by unfold nums8; rw [List.length_map]
theorem str_nums8 (l : List UInt8) : strOfNums (nums8 l) = str8 l := by rw [nums_str8, bytes8_nums8]
theorem cut_list (s : ByteArray) (i : Nat) : (s.extract i s.size).data.toList = s.data.toList.drop i := by
  rw [Ru.extract_pc, Ru.pc, List.take_of_length_le (by rw [List.length_drop, Ru.size_list]; omega)]
theorem cut_size (s : ByteArray) (i : Nat) : (s.extract i s.size).size = s.size - i := by
  rw [← Ru.size_list, cut_list, List.length_drop, Ru.size_list]

theorem clean_l0 (s : ByteArray) (hs : s.size ≤ 268435456) : ∀ (n i : Nat) (acc : List UInt8), s.size ≤ i + n → i ≤ s.size → acc.length ≤ 4 * i → ∀ k, scriptoriumref01_Clean.l0 (k + n + 9) (nums8 acc) s i = some (str8 (acc ++ Ru.cleanL (s.data.toList.drop i))) := by
  intro n
  induction n with
  | zero =>
    intro i acc h hi ha k
    simp only [scriptoriumref01_Clean.l0]
    rw [if_neg (by omega), str_nums8, List.drop_eq_nil_of_le (by rw [Ru.size_list]; omega), Ru.cleanL_nil, List.append_nil]
  | succ n ih =>
    intro i acc h hi ha k
    by_cases hlt : i < s.size
    · have hd : s.data.toList.drop i ≠ [] := by
        intro h0
        have := congrArg List.length h0
        rw [List.length_drop, Ru.size_list] at this; simp at this; omega
      have hF := first_f (k + n + 1) (s.extract i s.size) (by rw [cut_size]; omega) (by rw [cut_size]; omega)
      rw [cut_list] at hF
      have hp := Ru.dec_pos _ hd
      rw [List.length_drop, Ru.size_list] at hp
      have hok := Ru.dec_ok (s.data.toList.drop i)
      have hcl := Ru.cleanL_cons _ hd
      rw [List.drop_drop] at hcl
      rw [hcl]
      generalize hr : (Ru.dec (s.data.toList.drop i)).1 = r at *
      generalize hk : (Ru.dec (s.data.toList.drop i)).2 = w at *
      have hpair : pairI (Ru.dec (s.data.toList.drop i)) = ((r : Int), (w : Int)) := by unfold pairI; rw [hr, hk]
      rw [hpair] at hF
      have hw : wrap64 ((i : Int) + (w : Int)) = ((i + w : Nat) : Int) := by rw [w_in _ (by omega) (by omega)]; omega
      have hr2 : r ≤ 1114111 := by unfold Ru.ok at hok; omega
      have he : (Ru.enc (Ru.fix r)).length ≤ 4 := Ru.enc_len _
      have hz := nums8_length acc
      have step := ih (i + w) (acc ++ Ru.enc (Ru.fix r)) (by omega) (by omega) (by rw [List.length_append]; omega) k
      rw [nums8_append] at step
      obtain ⟨M, hM⟩ : ∃ M, k + n + 9 = M := ⟨_, rfl⟩
      rw [hM] at step
      rw [show k + n + 1 + 8 = M by omega] at hF
      rw [show k + (n + 1) + 9 = M + 1 by omega]
      clear hM ih
      simp only [scriptoriumref01_Clean.l0]
      rw [if_pos (by omega), if_pos (by omega), if_pos (by omega), Int.toNat_natCast, hF, Option.bind_some]
      simp only
      by_cases h0 : r = 0
      · subst h0
        have hq : scriptoriumref01_Put.f 65533 = some (str8 (Ru.enc (Ru.fix 0))) := put_f 65533 (by omega)
        rw [if_pos (by rfl), hq, Option.bind_some, if_pos (by rw [str8_size]; omega), bytesOf_str8, hw, step, List.append_assoc]
      · have hfx : Ru.fix r = r := by unfold Ru.fix; rw [if_neg h0]
        rw [if_neg (by omega), put_f r (by omega), Option.bind_some]
        rw [hfx] at he step ⊢
        rw [if_pos (by rw [str8_size]; omega), bytesOf_str8, hw, step, List.append_assoc]
    · have := ih i acc (by omega) hi ha (k + 1)
      rw [show k + (n + 1) + 9 = k + 1 + n + 9 by omega]
      exact this

theorem ref_clean_f (l : List Int) (hl : l.length ≤ 268435456) : ∃ k, scriptoriumref01_Clean.f k l = some (str8 (Ru.cleanL (bytes8 l))) := by
  have hz : (strOfNums l).size = l.length := by rw [← Ru.size_list, strOf_list]; simp [bytes8]
  refine ⟨0 + l.length + 9, ?_⟩
  have := clean_l0 (strOfNums l) (by omega) l.length 0 [] (by omega) (Nat.zero_le _) (Nat.le_refl _) 0
  unfold scriptoriumref01_Clean.f
  rw [strOf_list, List.drop_zero, List.nil_append] at this
  exact this

theorem in_f (a lo hi : Int) : scriptoriumref01_in.f a lo hi = some (decide (lo ≤ a ∧ a ≤ hi)) := by
  unfold scriptoriumref01_in.f
  by_cases h : lo ≤ a
  · rw [if_pos h]; exact congrArg some (decide_eq_decide.2 (by omega))
  · rw [if_neg (by omega)]; exact congrArg some (decide_eq_false (by omega)).symm

theorem space_f (a : Int) : scriptoriumref01_Space.f a = some (spaceI a) := by
  rw [spaceI_iff]
  unfold scriptoriumref01_Space.f
  repeat' split
  all_goals refine congrArg some ?_
  all_goals first | exact (decide_eq_true (by omega)).symm | exact (decide_eq_false (by omega)).symm | exact decide_eq_decide.2 (by omega)

theorem markN_is (x : Nat) : Ru.markN x = decide ((33 ≤ x ∧ x ≤ 47) ∨ (58 ≤ x ∧ x ≤ 64) ∨ (91 ≤ x ∧ x ≤ 96) ∨ (123 ≤ x ∧ x ≤ 126)) := by
  unfold Ru.markN
  rw [Bool.eq_iff_iff]
  simp only [Bool.or_eq_true, Bool.and_eq_true, decide_eq_true_eq, or_assoc]

theorem mark_f (a : Int) : scriptoriumref01_Mark.f a = some (Ru.markN a.toNat) := by
  rw [markN_is]
  unfold scriptoriumref01_Mark.f
  repeat' split
  all_goals refine congrArg some ?_
  all_goals first | exact (decide_eq_true (by omega)).symm | exact (decide_eq_false (by omega)).symm | exact decide_eq_decide.2 (by omega)

theorem punct_j0 (k : Nat) (a : Int) (x y : Bool) : scriptoriumref01_Punct.j0 (k + 1) a x y = some (x || y || decide ((8208 ≤ a ∧ a ≤ 8231) ∨ (8240 ≤ a ∧ a ≤ 8286) ∨ (8352 ≤ a ∧ a ≤ 8384) ∨ (8592 ≤ a ∧ a ≤ 8703) ∨ (12289 ≤ a ∧ a ≤ 12291) ∨ (12296 ≤ a ∧ a ≤ 12305))) := by
  simp only [scriptoriumref01_Punct.j0, in_f, Option.bind_some, decide_eq_true_eq]
  cases x <;> cases y
  all_goals simp only [Bool.false_eq_true, if_false, if_true, Bool.true_or, Bool.or_true, Bool.false_or, ite_self]
  repeat' split
  all_goals refine congrArg some ?_
  all_goals first | exact (decide_eq_true (by omega)).symm | exact (decide_eq_false (by omega)).symm | exact decide_eq_decide.2 (by omega)

theorem punct_f (k : Nat) (a : Int) : scriptoriumref01_Punct.f (k + 1) a = some (Ru.punctI a) := by
  have hp : Ru.punctI a = (Ru.markN a.toNat || decide ((161 ≤ a ∧ a ≤ 169) ∨ (171 ≤ a ∧ a ≤ 177) ∨ a = 180 ∨ (182 ≤ a ∧ a ≤ 184) ∨ a = 187 ∨ a = 191 ∨ a = 215 ∨ a = 247) || decide ((8208 ≤ a ∧ a ≤ 8231) ∨ (8240 ≤ a ∧ a ≤ 8286) ∨ (8352 ≤ a ∧ a ≤ 8384) ∨ (8592 ≤ a ∧ a ≤ 8703) ∨ (12289 ≤ a ∧ a ≤ 12291) ∨ (12296 ≤ a ∧ a ≤ 12305))) := by
    rw [markN_is]
    unfold Ru.punctI Ru.punctN Ru.inN
    rw [markN_is, Bool.eq_iff_iff]
    simp only [Bool.or_eq_true, Bool.and_eq_true, beq_iff_eq, decide_eq_true_eq]
    omega
  rw [hp]
  unfold scriptoriumref01_Punct.f
  simp only [mark_f, in_f, Option.bind_some, punct_j0, decide_eq_true_eq]
  generalize decide ((8208 ≤ a ∧ a ≤ 8231) ∨ (8240 ≤ a ∧ a ≤ 8286) ∨ (8352 ≤ a ∧ a ≤ 8384) ∨ (8592 ≤ a ∧ a ≤ 8703) ∨ (12289 ≤ a ∧ a ≤ 12291) ∨ (12296 ≤ a ∧ a ≤ 12305)) = Z
  generalize Ru.markN a.toNat = M
  have hb : (a == (247 : Int)) = decide (a = 247) := rfl
  rw [hb]
  repeat' split
  all_goals refine congrArg (fun b => some (M || b || Z)) ?_
  all_goals first | exact (decide_eq_true (by omega)).symm | exact (decide_eq_false (by omega)).symm | exact decide_eq_decide.2 (by omega)

theorem small_f (k r : Nat) (hr : r ≤ 1114111) : scriptoriumref01_small.f (k + 2) r = some (str8 ((Ru.smallR r).flatMap Ru.enc)) := by
  have w1 : wrap64 ((r : Int) + 32) = ((r + 32 : Nat) : Int) := by rw [w_in _ (by omega) (by omega)]; omega
  have w2 : wrap64 ((r : Int) + 80) = ((r + 80 : Nat) : Int) := by rw [w_in _ (by omega) (by omega)]; omega
  have hb : ((r : Int) == 7838) = decide (r = 7838) := by
    rw [Bool.eq_iff_iff, beq_iff_eq, decide_eq_true_eq]; omega
  have hss : (⟨#[115, 115]⟩ : ByteArray) = str8 ([115, 115].flatMap Ru.enc) := by rfl
  unfold scriptoriumref01_small.f
  simp only [scriptoriumref01_small.j0, scriptoriumref01_small.j1, in_f, Option.bind_some, w1, w2, put_f r (by omega), put_f (r + 32) (by omega), put_f (r + 80) (by omega), hb, decide_eq_true_eq, if_true, if_pos trivial]
  unfold Ru.smallR Ru.sharp Ru.smallN
  rw [hss]
  repeat' split
  all_goals first
    | (exfalso; omega)
    | rfl
    | simp
end Go.Proofs.YtokmmkeoodgodaaGreatDoor
