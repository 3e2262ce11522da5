/-
  RunesFold: labels are compared without regard to case and blanks: the pure half of the document's Fold, and the walk.
-/
import Derived.Test.YtokmmkeoodgodaaGreatDoorRuPureZ
import Derived.Test.YtokmmkeoodgodaaGreatDoorRuShown
namespace Go.Proofs.YtokmmkeoodgodaaGreatDoor
open Go.RowKit Go.Proofs.YtokmmkeoodgodaaGreatDoorW.PrintWords Pr
set_option linter.unusedSimpArgs false
set_option linter.unusedVariables false

theorem spaceI_nat (r : Nat) : spaceI (r : Int) = Ru.spaceN r := by
  unfold spaceI
  rw [decide_eq_true (by omega : (0 : Int) ≤ (r : Int)), Bool.true_and, Int.toNat_natCast]
theorem flat_nil (out : List Nat) : out.flatMap Ru.enc = [] ↔ out = [] := by
  cases out with
  | nil => simp
  | cons r t => simp [Ru.enc_ne r]

theorem fold_l0 (s : ByteArray) (hs : s.size ≤ 67108864) : ∀ (n i : Nat) (out : List Nat) (gap : Bool), s.size ≤ i + n → i ≤ s.size → (out.flatMap Ru.enc).length ≤ 5 * i →
    ∀ k, scriptoriumref01_Fold.l0 (k + n + 12) s (nums8 (out.flatMap Ru.enc)) gap i = some (str8 ((Ru.foldGo gap out (Ru.runes (s.data.toList.drop i))).flatMap Ru.enc)) := by
  intro n
  induction n with
  | zero =>
    intro i out gap h hi ha k
    rw [show k + 0 + 12 = (k + 11) + 1 from rfl]
    generalize k + 11 = M
    simp only [scriptoriumref01_Fold.l0]
    rw [if_neg (by omega), str_nums8, List.drop_eq_nil_of_le (by rw [Ru.size_list]; omega), Ru.runes_nil]
    rfl
  | succ n ih =>
    intro i out gap h hi ha k
    by_cases hlt : i < s.size
    · have hd : s.data.toList.drop i ≠ [] := by
        intro h0
        have := congrArg List.length h0
        rw [List.length_drop, Ru.size_list] at this; simp at this; omega
      have hF := first_f (k + n + 3) (s.extract i s.size) (by rw [cut_size]; omega) (by rw [cut_size]; omega)
      rw [cut_list] at hF
      have hp := Ru.dec_pos _ hd
      rw [List.length_drop, Ru.size_list] at hp
      have hok := Ru.dec_ok (s.data.toList.drop i)
      have hcl := Ru.runes_cons _ hd
      rw [List.drop_drop] at hcl
      rw [hcl]
      generalize hr : (Ru.dec (s.data.toList.drop i)).1 = r at *
      generalize hk : (Ru.dec (s.data.toList.drop i)).2 = w at *
      have hpair : pairI (Ru.dec (s.data.toList.drop i)) = ((r : Int), (w : Int)) := by unfold pairI; rw [hr, hk]
      rw [hpair] at hF
      have hw : wrap64 ((i : Int) + (w : Int)) = ((i + w : Nat) : Int) := by rw [w_in _ (by omega) (by omega)]; omega
      have hr2 : r ≤ 1114111 := by unfold Ru.ok at hok; omega
      have hS := small_f (k + n + 9) r hr2
      have hsl := Ru.sharp_len r
      have hz := nums8_length (out.flatMap Ru.enc)
      obtain ⟨M, hM⟩ : ∃ M, k + n + 12 = M + 1 := ⟨k + n + 11, by omega⟩
      rw [show k + n + 3 + 8 = M by omega] at hF
      rw [show k + n + 9 + 2 = M by omega] at hS
      have ih1 := fun out' gap' hh => ih (i + w) out' gap' (by omega) (by omega) hh k
      obtain ⟨M', hM'⟩ : ∃ M', M + 1 = M' := ⟨_, rfl⟩
      rw [show k + (n + 1) + 12 = M' + 1 by omega]
      rw [show k + n + 12 = M' by omega] at ih1
      have hF' := first_f (k + n + 4) (s.extract i s.size) (by rw [cut_size]; omega) (by rw [cut_size]; omega)
      rw [cut_list, hpair, show k + n + 4 + 8 = M' by omega] at hF'
      have hS' := small_f (k + n + 10) r hr2
      rw [show k + n + 10 + 2 = M' by omega] at hS'
      clear hM hM' ih hF hS
      simp only [scriptoriumref01_Fold.l0]
      rw [if_pos (by omega), if_pos (by omega), if_pos (by omega), Int.toNat_natCast, hF', Option.bind_some]
      simp only [space_f, spaceI_nat, Option.bind_some, hS', hw, bytesOf_str8]
      by_cases hb : Ru.spaceN r = true
      · rw [if_pos hb, ih1 out true (by omega)]
        simp only [Ru.foldGo, if_pos hb]
      · rw [if_neg hb]
        simp only [Ru.foldGo, if_neg hb]
        have e32 : ([32] : List Int) = nums8 ([32].flatMap Ru.enc) := by rfl
        by_cases hg : gap = true
        · rw [if_pos hg]
          by_cases ho : out = []
          · subst ho
            have := ih1 ([] ++ [] ++ Ru.smallR r) false (by simp only [List.nil_append]; omega)
            simp only [List.nil_append] at this
            rw [if_neg (by simp [nums8]), if_pos (by rw [str8_size]; have : (nums8 (([] : List Nat).flatMap Ru.enc)).length = 0 := rfl; omega), if_neg (fun h => h.2 rfl)]
            simp only [List.flatMap_nil, List.nil_append]
            exact this
          · have ho' : out.flatMap Ru.enc ≠ [] := fun h => ho ((flat_nil out).1 h)
            have hpos : 0 < (out.flatMap Ru.enc).length := List.length_pos_iff.2 ho'
            have := ih1 (out ++ [32] ++ Ru.smallR r) false (by simp only [List.flatMap_append, List.length_append]; have : ([32].flatMap Ru.enc).length = 1 := rfl; omega)
            rw [if_pos (by omega), if_pos (by omega), e32]
            rw [if_pos (by rw [str8_size, List.length_append, nums8_length, nums8_length]; have : ([32].flatMap Ru.enc).length = 1 := rfl; omega), if_pos ⟨hg, ho⟩, ← nums8_append, ← nums8_append, ← List.flatMap_append, ← List.flatMap_append]
            exact this
        · have := ih1 (out ++ Ru.smallR r) false (by rw [List.flatMap_append, List.length_append]; omega)
          rw [if_neg hg, if_pos (by rw [str8_size]; omega), if_neg (fun h => hg h.1), List.append_nil, ← nums8_append, ← List.flatMap_append]
          exact this
    · have := ih i out gap (by omega) hi ha (k + 1)
      rw [show k + (n + 1) + 12 = k + 1 + n + 12 by omega]
      exact this

theorem ref_fold_f (s : ByteArray) (hs : s.size ≤ 67108864) : ∃ k, scriptoriumref01_Fold.f k s = some (str8 (Ru.foldL s.data.toList)) := by
  refine ⟨0 + s.size + 12, ?_⟩
  have := fold_l0 s hs s.size 0 [] false (by omega) (Nat.zero_le _) (Nat.le_refl _) 0
  unfold scriptoriumref01_Fold.f
  rw [List.drop_zero] at this
  exact this

theorem str8_app (a b : List UInt8) : str8 a ++ str8 b = str8 (a ++ b) := by
  apply ByteArray.ext
  rw [ByteArray.data_append]
  simp [str8]

set_option maxHeartbeats 4000000 in
set_option maxRecDepth 1000000 in
theorem foldlaw_calls (s : ByteArray) (hs : s.size ≤ 16777200) (w : World) (hT : TT w) :
    Calls Tryz.prog 4 #[.string s] w fun e w' => e = .returned (.bool true) ∧ Below w.heap.size w w' := by
  obtain ⟨kr, hkr⟩ := ref_fold_f s (by omega)
  have hl := Ru.fold_len s.data.toList
  rw [Ru.size_list] at hl
  have h2 := Ru.foldL_foldL s.data.toList
  have h3 := Ru.fold_ends s.data.toList
  have happ : (⟨#[32, 9]⟩ : ByteArray) ++ s ++ ⟨#[10, 32]⟩ = str8 (32 :: 9 :: (s.data.toList ++ [10, 32])) := by
    have e1 : (⟨#[32, 9]⟩ : ByteArray) = str8 [32, 9] := rfl
    have e2 : (⟨#[10, 32]⟩ : ByteArray) = str8 [10, 32] := rfl
    have e3 : s = str8 s.data.toList := (list_str s).symm
    conv => lhs; rw [e3]
    rw [e1, e2, str8_app, str8_app]
    simp
  have HSh := Lib.hid (shown_calls w hT)
  have HF1 := Lib.hid (fun (W : World) (h : TT W) => fold_any s W (by omega) h)
  have HR := Lib.hid (fun (W : World) => scriptoriumref01_Fold.calls kr s _ W hkr)
  have HF2 : ∀ (W : World), TT W → Calls Tryz.prog 10 #[.string (str8 (Ru.foldL s.data.toList))] W fun e w' => e = .returned (.string (str8 (Ru.foldL s.data.toList))) ∧ Below W.heap.size W w' := by
    intro W hW
    have := fold_any (str8 (Ru.foldL s.data.toList)) W (by rw [str8_size]; omega) hW
    rw [str8_list, h2] at this
    exact this
  have HF3 : ∀ (W : World), TT W → Calls Tryz.prog 10 #[.string ((⟨#[32, 9]⟩ : ByteArray) ++ s ++ ⟨#[10, 32]⟩)] W fun e w' => e = .returned (.string (str8 (Ru.foldL s.data.toList))) ∧ Below W.heap.size W w' := by
    intro W hW
    have := fold_any ((⟨#[32, 9]⟩ : ByteArray) ++ s ++ ⟨#[10, 32]⟩) W (by rw [happ, str8_size]; simp; omega) hW
    rw [happ, str8_list, h3, ← happ] at this
    exact this
  have HF2 := Lib.hid HF2
  have HF3 := Lib.hid HF3
  clear happ h2 h3 hkr hl
  generalize str8 (Ru.foldL s.data.toList) = F at *
  go_enter Tryz.func4, Tryz.ntmps4
  go_wp2_with fail
  refine HSh.out.mono ?_
  rintro e w1 ⟨rfl, hb1⟩
  go_wp2_with fail
  refine (HF1.out _ (hT.of hb1)).mono ?_
  rintro e w2 ⟨rfl, hb2⟩
  have hb12 := hb1.trans (hb2.mono hb1.size)
  clear hb1 hb2
  go_wp2_with fail
  refine (HR.out _).mono ?_
  rintro e w3 ⟨rfl, hb3⟩
  have hb13 := hb12.trans (hb3.mono hb12.size)
  clear hb12 hb3
  go_wp2_with fail
  refine (HF2.out _ (hT.of hb13)).mono ?_
  rintro e w4 ⟨rfl, hb4⟩
  have hb14 := hb13.trans (hb4.mono hb13.size)
  clear hb13 hb4
  go_wp2_with fail
  refine (HF3.out _ (hT.of hb14)).mono ?_
  rintro e w5 ⟨rfl, hb5⟩
  go_wp2_with fail
  go_ret
  exact ⟨rfl, hb14.trans (hb5.mono hb14.size)⟩
end Go.Proofs.YtokmmkeoodgodaaGreatDoor
