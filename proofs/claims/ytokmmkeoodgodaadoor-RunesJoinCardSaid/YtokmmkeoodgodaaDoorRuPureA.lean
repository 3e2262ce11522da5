/-
  THE PURE HALF of the printed functions of package scriptoriumref01 and of 'shown': what they compute.
-/
import Derived.Test.YtokmmkeoodgodaaDoorRuDefs
import Derived.Test.YtokmmkeoodgodaaDoorRuLinesW
import Derived.Test.YtokmmkeoodgodaaDoorPr2
import Derived.Test.YtokmmkeoodgodaaDoorRuShown
namespace Go.Proofs.YtokmmkeoodgodaaDoor
open Go.RowKit Go.Proofs.YtokmmkeoodgodaaDoorW.PrintWords Pr
set_option linter.unusedSimpArgs false
set_option linter.unusedVariables false

theorem bt_of {s : ByteArray} {i : Nat} {b : UInt8} (h : s.data.toList[i]? = some b) : bt s (i : Int) = (b.toNat : Int) := by
  have hi : i < s.size := by
    have := (List.getElem?_eq_some_iff.1 h).1
    rwa [Ru.size_list] at this
  unfold bt
  rw [Int.toNat_natCast, dif_pos hi]
  have h2 : s.data.toList[i]? = some (s[i]'hi) := by
    rw [List.getElem?_eq_getElem (by rw [Ru.size_list]; exact hi)]; rfl
  rw [h2] at h
  rw [Option.some.inj h]

theorem w64 (n : Nat) (h : n < 9223372036854775807) : wrap64 ((n : Int) + 1) = ((n + 1 : Nat) : Int) := by unfold wrap64; omega

theorem cut_str (s : ByteArray) (a b : Nat) : s.extract a b = str8 ((s.data.toList.take b).drop a) := by
  rw [extract_list, Ru.pc, List.drop_take]

theorem ref_lines (s : ByteArray) (hs : s.size ≤ 268435456) : ∀ (n frm i : Nat) (acc : List ByteArray), s.size ≤ i + n → frm ≤ i → acc.length ≤ i → i ≤ s.size + 1 → ∃ k, scriptoriumref01_Lines.l0 k s acc frm i = some (acc ++ (Ru.refFrom s.data.toList frm i).map str8) := by
  intro n
  induction n with
  | zero =>
    intro frm i acc h hf ha hi1
    refine ⟨1, ?_⟩
    simp only [scriptoriumref01_Lines.l0]
    rw [if_neg (by omega), Ru.refFrom_end _ _ _ (by rw [Ru.size_list]; omega)]
    by_cases hfl : frm < s.size
    · rw [if_pos (by omega), if_pos (by omega), if_pos (by omega), if_pos (by omega), Int.toNat_natCast, if_pos (by rw [Ru.size_list]; exact hfl), cut_str, List.take_of_length_le (by rw [Ru.size_list]; omega)]
      rfl
    · rw [if_neg (by omega), if_neg (by rw [Ru.size_list]; exact hfl)]
      simp
  | succ n ih =>
    intro frm i acc h hf ha hi1
    by_cases hi : i < s.size
    · obtain ⟨b, hb⟩ : ∃ b, s.data.toList[i]? = some b := ⟨_, List.getElem?_eq_getElem (by rw [Ru.size_list]; exact hi)⟩
      have hbt := bt_of hb
      have hw := w64 i (by omega)
      by_cases h10 : b = 10
      · subst h10
        obtain ⟨k, hk⟩ := ih (i + 1) (i + 1) (acc ++ [str8 ((s.data.toList.take i).drop frm)]) (by omega) (by omega) (by simp; omega) (by omega)
        refine ⟨k + 2, ?_⟩
        simp only [scriptoriumref01_Lines.l0, scriptoriumref01_Lines.j1]
        rw [if_pos (by omega), if_pos (by omega), hbt, if_pos (by decide), if_neg (by decide), if_pos (by omega), if_pos (by omega), if_pos (by omega), if_pos (by omega), Option.bind_some, if_pos (by omega), if_pos (by omega), if_neg (by decide), hw, Int.toNat_natCast, Int.toNat_natCast, cut_str, hk, Ru.refFrom_lf _ _ _ hb]
        simp
      · by_cases h13 : b = 13
        · subst h13
          by_cases hn : s.data.toList[i + 1]? = some 10
          · have hi2 : i + 1 < s.size := by
              have := (List.getElem?_eq_some_iff.1 hn).1
              rwa [Ru.size_list] at this
            have hw2 := w64 (i + 1) (by omega)
            obtain ⟨k, hk⟩ := ih (i + 2) (i + 2) (acc ++ [str8 ((s.data.toList.take i).drop frm)]) (by omega) (by omega) (by simp; omega) (by omega)
            refine ⟨k + 2, ?_⟩
            simp only [scriptoriumref01_Lines.l0, scriptoriumref01_Lines.j1]
            rw [if_pos (by omega), if_pos (by omega), hbt, if_neg (by decide), if_neg (by decide), if_pos (by omega), if_pos (by omega), if_pos (by omega), if_pos (by omega), Option.bind_some, if_pos (by omega), if_pos (by omega), if_pos (by decide), hw, if_pos (by omega), if_pos (by omega), bt_of hn, if_pos (by decide), hw2, Int.toNat_natCast, Int.toNat_natCast, cut_str, hk, Ru.refFrom_crlf _ _ _ hb hn]
            simp
          · obtain ⟨k, hk⟩ := ih (i + 1) (i + 1) (acc ++ [str8 ((s.data.toList.take i).drop frm)]) (by omega) (by omega) (by simp; omega) (by omega)
            refine ⟨k + 2, ?_⟩
            simp only [scriptoriumref01_Lines.l0, scriptoriumref01_Lines.j1]
            rw [if_pos (by omega), if_pos (by omega), hbt, if_neg (by decide), if_neg (by decide), if_pos (by omega), if_pos (by omega), if_pos (by omega), if_pos (by omega), Option.bind_some, if_pos (by omega), if_pos (by omega), if_pos (by decide), hw, Int.toNat_natCast, Int.toNat_natCast, cut_str]
            by_cases hi2 : i + 1 < s.size
            · obtain ⟨c, hc⟩ : ∃ c, s.data.toList[i + 1]? = some c := ⟨_, List.getElem?_eq_getElem (by rw [Ru.size_list]; exact hi2)⟩
              have hc10 : ¬ ((c.toNat : Int) = 10) := by
                intro e
                apply hn
                rw [hc, show c = 10 from UInt8.toNat_inj.1 (show c.toNat = (10 : UInt8).toNat by have : (10 : UInt8).toNat = 10 := rfl; omega)]
              rw [if_pos (by omega), if_pos (by omega), bt_of hc, if_neg hc10, hk, Ru.refFrom_cr _ _ _ hb hn]
              simp
            · rw [if_neg (by omega), hk, Ru.refFrom_cr _ _ _ hb hn]
              simp
        · obtain ⟨k, hk⟩ := ih frm (i + 1) acc (by omega) (by omega) (by omega) (by omega)
          have e10 : ¬ ((b.toNat : Int) = 10) := fun e => h10 (UInt8.toNat_inj.1 (show b.toNat = (10 : UInt8).toNat by have : (10 : UInt8).toNat = 10 := rfl; omega))
          have e13 : ((b.toNat : Int) != 13) = true := bne_iff_ne.2 (fun e => h13 (UInt8.toNat_inj.1 (show b.toNat = (13 : UInt8).toNat by have : (13 : UInt8).toNat = 13 := rfl; omega)))
          refine ⟨k + 2, ?_⟩
          simp only [scriptoriumref01_Lines.l0, scriptoriumref01_Lines.j1]
          rw [if_pos (by omega), if_pos (by omega), hbt, if_neg e10, e13, if_pos rfl, hw, hk, Ru.refFrom_other _ _ _ _ hf hb h10 h13]
    · exact ih frm i acc (by omega) hf ha hi1

theorem ref_lines_f (s : ByteArray) (hs : s.size ≤ 268435456) : ∃ k, scriptoriumref01_Lines.f k s = some ((Ru.linesL s.data.toList).map str8) := by
  obtain ⟨k, hk⟩ := ref_lines s hs s.size 0 0 [] (by omega) (Nat.le_refl _) (Nat.zero_le _) (Nat.zero_le _)
  refine ⟨k, ?_⟩
  rw [Ru.refFrom_start] at hk
  exact hk

theorem shown_true : scriptoriumlaw01_shown.f = some true := rfl
end Go.Proofs.YtokmmkeoodgodaaDoor
