/- The plain layer: no program, no memory. -/
import Derived.Test.YtokmmkeoodgodaaDoorRuPipe
namespace Ru
open Go.Lib
def slen : List (List Nat) → Nat
  | [] => 0
  | w :: ws => w.length + 1 + slen ws
theorem slen_append : ∀ a b : List (List Nat), slen (a ++ b) = slen a + slen b
  | [], b => by simp [slen]
  | w :: a, b => by
    have := slen_append a b
    simp only [List.cons_append, slen]; omega
theorem glueW_len : ∀ ws : List (List Nat), ws ≠ [] → (glueW ws).length + 1 ≤ slen ws
  | [], h => absurd rfl h
  | [w], _ => by simp [glueW, slen]
  | w :: v :: r, _ => by
    have := glueW_len (v :: r) (by simp)
    simp only [glueW, List.length_append, List.length_cons, slen] at *
    omega
theorem slen_words : ∀ rs cur : List Nat, slen (wordsG cur rs) ≤ cur.length + rs.length + 1
  | [], cur => by
    unfold wordsG
    split
    · simp [slen]
    · simp [slen]
  | r :: t, cur => by
    have h1 := slen_words t []
    have h2 := slen_words t (cur ++ [r])
    unfold wordsG
    split
    · rw [slen_append]
      simp only [List.length_nil, List.length_cons] at *
      split
      · simp only [slen]; omega
      · simp only [slen]; omega
    · simp only [List.length_append, List.length_cons, List.length_nil] at *
      omega
theorem glue_words_len (rs : List Nat) : (glueW (wordsG [] rs)).length ≤ rs.length := by
  by_cases h : wordsG [] rs = []
  · rw [h]; exact Nat.zero_le _
  · have h1 := glueW_len _ h
    have h2 := slen_words rs []
    simp only [List.length_nil] at h2
    omega
theorem dec_four (l : List UInt8) : (dec l).2 ≤ 4 := by
  unfold dec Go.Lib.decodeN
  repeat' split
  all_goals simp
theorem runes_len : ∀ (n : Nat) (l : List UInt8), l.length ≤ n → (runes l).length ≤ l.length ∧ l.length ≤ 4 * (runes l).length
  | 0, l, h => by
    have : l = [] := List.length_eq_zero_iff.1 (by omega)
    subst this; simp [runes_nil]
  | n + 1, l, h => by
    by_cases hl : l = []
    · subst hl; simp [runes_nil]
    · have hp := dec_pos l hl
      have h4 := dec_four l
      have ih := runes_len n (l.drop (dec l).2) (by rw [List.length_drop]; omega)
      rw [runes_cons l hl, List.length_cons]
      rw [List.length_drop] at ih
      omega
theorem enc_len (r : Nat) : (enc r).length ≤ 4 := by
  unfold enc
  repeat' split
  all_goals simp
theorem flat_len : ∀ rs : List Nat, (rs.flatMap enc).length ≤ 4 * rs.length
  | [] => by simp
  | r :: t => by
    have := flat_len t
    have := enc_len r
    rw [List.flatMap_cons, List.length_append, List.length_cons]; omega
theorem glue_len (s : ByteArray) : (glueW (wordsG [] (runes s.data.toList))).length ≤ s.size := by
  have h1 := glue_words_len (runes s.data.toList)
  have h2 := (runes_len _ s.data.toList (Nat.le_refl _)).1
  rw [size_list] at h2
  omega
theorem join_len (s : ByteArray) : (join ((goFieldsP spaceN s).map (·.data.toList)) [32]).length ≤ 4 * s.size := by
  have h := (runes_len _ (join ((goFieldsP spaceN s).map (·.data.toList)) [32]) (Nat.le_refl _)).2
  have e : runes (join ((goFieldsP spaceN s).map (·.data.toList)) [32]) = glueW (wordsG [] (runes s.data.toList)) := by
    rw [runes_join, List.map_map]
    have := fields_words s
    rw [show (runes ∘ fun x : ByteArray => x.data.toList) = (fun x : ByteArray => runes x.data.toList) from rfl, this]
  rw [e] at h
  have := glue_len s
  omega
theorem mapd_len (s : ByteArray) : (mapD smallI (join ((goFieldsP spaceN s).map (·.data.toList)) [32])).length ≤ 4 * s.size := by
  rw [pipe]
  have h := flat_len ((glueW (wordsG [] (runes s.data.toList))).map smallN)
  rw [List.length_map] at h
  have := glue_len s
  omega
theorem slen_len : ∀ ws : List (List Nat), ws.length ≤ slen ws
  | [] => Nat.le_refl _
  | w :: ws => by
    have := slen_len ws
    simp only [List.length_cons, slen]; omega
theorem fields_len (s : ByteArray) : (goFieldsP spaceN s).length ≤ s.size + 1 := by
  have h := congrArg List.length (fields_words s)
  rw [List.length_map] at h
  have h1 := slen_len (wordsG [] (runes s.data.toList))
  have h2 := slen_words (runes s.data.toList) []
  have h3 := (runes_len _ s.data.toList (Nat.le_refl _)).1
  rw [size_list] at h3
  simp only [List.length_nil] at h2
  omega
theorem sharp_len (r : Nat) : ((smallR r).flatMap enc).length ≤ 4 := by
  unfold smallR sharp
  split
  · have : ([115, 115] : List Nat).flatMap enc = [115, 115] := by decide
    rw [this]; simp
  · rw [List.flatMap_cons, List.flatMap_nil, List.append_nil]; exact enc_len _
theorem fold_len (l : List UInt8) : (foldL l).length ≤ 4 * l.length := by
  unfold foldL
  rw [foldR_words]
  have key : ∀ rs : List Nat, ((rs.flatMap smallR).flatMap enc).length ≤ 4 * rs.length := by
    intro rs
    induction rs with
    | nil => simp
    | cons r t ih =>
      have := sharp_len r
      rw [List.flatMap_cons, List.flatMap_append, List.length_append, List.length_cons]; omega
  have h1 := key (glueW (wordsG [] (runes l)))
  have h2 := glue_words_len (runes l)
  have h3 := (runes_len _ l (Nat.le_refl _)).1
  omega
end Ru
