/- The plain layer: no program, no memory. -/
import Derived.Test.YtokmmkeoodgodaaDoorRuPlain
namespace Ru

/-- A2: the lines of a text, 'cur' being what stands ahead in the line; 'cr': a carriage return stands just ahead -/
def linesC : List UInt8 → Bool → List UInt8 → List (List UInt8)
  | cur, _, [] => if cur = [] then [] else [cur]
  | cur, cr, b :: t =>
    if b = 10 then (if cr then linesC cur false t else cur :: linesC [] false t)
    else if b = 13 then cur :: linesC [] true t
    else linesC (cur ++ [b]) false t
def linesG (cur l : List UInt8) : List (List UInt8) := linesC cur false l
def linesL (l : List UInt8) : List (List UInt8) := linesG [] l

theorem linesC_cr (t : List UInt8) (h : t.head? ≠ some 10) (cur : List UInt8) : linesC cur true t = linesC cur false t := by
  cases t with
  | nil => simp [linesC]
  | cons c t' => simp only [List.head?_cons, ne_eq, Option.some.injEq] at h; simp only [linesC, if_neg h]
theorem linesG_nil (cur : List UInt8) : linesG cur [] = if cur = [] then [] else [cur] := by simp only [linesG, linesC]
theorem linesG_lf (cur t : List UInt8) : linesG cur (10 :: t) = cur :: linesG [] t := by simp [linesG, linesC]
theorem linesG_crlf (cur t : List UInt8) : linesG cur (13 :: 10 :: t) = cur :: linesG [] t := by simp [linesG, linesC]
theorem linesG_cr (cur t : List UInt8) (h : t.head? ≠ some 10) : linesG cur (13 :: t) = cur :: linesG [] t := by
  have := linesC_cr t h []
  simp [linesG, linesC, this]
theorem linesG_other (cur t : List UInt8) (b : UInt8) (h1 : b ≠ 10) (h2 : b ≠ 13) : linesG cur (b :: t) = linesG (cur ++ [b]) t := by
  simp [linesG, linesC, h1, h2]

/-- a head without line ends -/
def plain (l : List UInt8) : Prop := ∀ b ∈ l, b ≠ 10 ∧ b ≠ 13
theorem linesG_plain : ∀ (p cur t : List UInt8), plain p → linesG cur (p ++ t) = linesG (cur ++ p) t
  | [], cur, t, _ => by simp
  | b :: p, cur, t, h => by
    have hb := h b (by simp)
    rw [List.cons_append, linesG_other _ _ _ hb.1 hb.2, linesG_plain p _ t (fun x hx => h x (by simp [hx]))]
    simp

theorem lines_plain (p t : List UInt8) (h : plain p) : linesL (p ++ t) = linesG p t := by
  unfold linesL; rw [linesG_plain p [] t h]; simp
/-- what runes.Lines does in one round: no end is there -/
theorem lines_last (p : List UInt8) (h : plain p) (hn : p ≠ []) : linesL p = [p] := by
  have := lines_plain p [] h
  rw [List.append_nil] at this
  rw [this, linesG_nil, if_neg hn]
theorem lines_lf (p t : List UInt8) (h : plain p) : linesL (p ++ 10 :: t) = p :: linesL t := by rw [lines_plain p _ h, linesG_lf]; rfl
theorem lines_crlf (p t : List UInt8) (h : plain p) : linesL (p ++ 13 :: 10 :: t) = p :: linesL t := by rw [lines_plain p _ h, linesG_crlf]; rfl
theorem lines_cr (p t : List UInt8) (h : plain p) (hn : t.head? ≠ some 10) : linesL (p ++ 13 :: t) = p :: linesL t := by rw [lines_plain p _ h, linesG_cr _ _ hn]; rfl
theorem lines_nil : linesL [] = [] := rfl

/-- lengths: each line, and how many there are -/
theorem linesG_length : ∀ (n : Nat) (cur l : List UInt8), l.length ≤ n → (linesG cur l).length ≤ l.length + (if cur = [] then 0 else 1)
  | n, cur, [], _ => by rw [linesG_nil]; split <;> simp
  | 0, cur, b :: t, h => by simp at h
  | n + 1, cur, b :: t, h => by
    simp only [List.length_cons] at h ⊢
    by_cases h1 : b = 10
    · subst h1; rw [linesG_lf]
      have := linesG_length n [] t (by omega)
      simp only [List.length_cons, if_true] at this ⊢
      omega
    by_cases h2 : b = 13
    · subst h2
      by_cases h3 : t.head? = some 10
      · cases t with
        | nil => simp at h3
        | cons c t' =>
          simp only [List.head?_cons, Option.some.injEq] at h3; subst h3
          rw [linesG_crlf]
          have := linesG_length n [] t' (by simp at h; omega)
          simp only [List.length_cons, if_true] at this ⊢
          omega
      · rw [linesG_cr _ _ h3]
        have := linesG_length n [] t (by omega)
        simp only [List.length_cons, if_true] at this ⊢
        omega
    · rw [linesG_other _ _ _ h1 h2]
      have := linesG_length n (cur ++ [b]) t (by omega)
      have e : (if cur ++ [b] = [] then 0 else 1) = 1 := by simp
      rw [e] at this
      omega
theorem lines_length (l : List UInt8) : (linesL l).length ≤ l.length := by
  have := linesG_length l.length [] l (Nat.le_refl _)
  rw [if_pos rfl] at this
  exact this

/-! the document's answer: by places -/
/-- what stands behind place i, 'from' being where the line begins -/
def refFrom (l : List UInt8) (frm i : Nat) : List (List UInt8) := linesG ((l.take i).drop frm) (l.drop i)

theorem refFrom_start (l : List UInt8) : refFrom l 0 0 = linesL l := by simp [refFrom, linesL]
theorem refFrom_end (l : List UInt8) (frm i : Nat) (h : l.length ≤ i) : refFrom l frm i = if frm < l.length then [l.drop frm] else [] := by
  unfold refFrom
  rw [List.drop_eq_nil_of_le h, linesG_nil, List.take_of_length_le h]
  by_cases hf : frm < l.length
  · rw [if_pos hf, if_neg (by simp; omega)]
  · rw [if_neg hf, if_pos (by simp; omega)]
theorem drop_at (l : List UInt8) (i : Nat) (b : UInt8) (h : l[i]? = some b) : l.drop i = b :: l.drop (i + 1) := by
  have hi : i < l.length := by
    rcases Nat.lt_or_ge i l.length with h' | h'
    · exact h'
    · rw [List.getElem?_eq_none h'] at h; cases h
  rw [List.drop_eq_getElem_cons hi]
  have : l[i] = b := by rw [List.getElem?_eq_getElem hi] at h; exact Option.some.inj h
  rw [this]
theorem refFrom_other (l : List UInt8) (frm i : Nat) (b : UInt8) (hf : frm ≤ i) (h : l[i]? = some b) (h1 : b ≠ 10) (h2 : b ≠ 13) : refFrom l frm i = refFrom l frm (i + 1) := by
  have hi : i < l.length := by
    rcases Nat.lt_or_ge i l.length with h' | h'
    · exact h'
    · rw [List.getElem?_eq_none h'] at h; cases h
  unfold refFrom
  rw [drop_at l i b h, linesG_other _ _ _ h1 h2]
  congr 1
  rw [List.take_succ_eq_append_getElem hi, List.drop_append_of_le_length (by simp; omega)]
  have : l[i] = b := by rw [List.getElem?_eq_getElem hi] at h; exact Option.some.inj h
  rw [this]
theorem take_drop_self (l : List UInt8) (i : Nat) : (l.take i).drop i = [] := by simp
theorem refFrom_lf (l : List UInt8) (frm i : Nat) (h : l[i]? = some 10) : refFrom l frm i = (l.take i).drop frm :: refFrom l (i + 1) (i + 1) := by
  unfold refFrom
  rw [drop_at l i 10 h, linesG_lf, take_drop_self]
theorem refFrom_crlf (l : List UInt8) (frm i : Nat) (h : l[i]? = some 13) (h' : l[i + 1]? = some 10) : refFrom l frm i = (l.take i).drop frm :: refFrom l (i + 2) (i + 2) := by
  unfold refFrom
  rw [drop_at l i 13 h, drop_at l (i + 1) 10 h', linesG_crlf, take_drop_self]
theorem refFrom_cr (l : List UInt8) (frm i : Nat) (h : l[i]? = some 13) (h' : l[i + 1]? ≠ some 10) : refFrom l frm i = (l.take i).drop frm :: refFrom l (i + 1) (i + 1) := by
  unfold refFrom
  rw [drop_at l i 13 h, linesG_cr _ _ (by rw [List.head?_drop]; exact h'), take_drop_self]

/-! RunesJoin: texts with ends behind them -/
/-- pieces: (text, end); right: texts are plain; an end is one of three; a lone CR is not followed by a LF -/
def glue : List (List UInt8 × List UInt8) → List UInt8
  | [] => []
  | (t, e) :: r => t ++ e ++ glue r
def Right : List (List UInt8 × List UInt8) → Prop
  | [] => True
  | (t, e) :: r => plain t ∧ (e = [10] ∨ e = [13, 10] ∨ (e = [13] ∧ (glue r).head? ≠ some 10)) ∧ Right r
theorem lines_glue : ∀ (r : List (List UInt8 × List UInt8)), Right r → linesL (glue r) = r.map (·.1)
  | [], _ => rfl
  | (t, e) :: r, ⟨hp, he, hr⟩ => by
    have ih := lines_glue r hr
    rw [glue]
    rcases he with rfl | rfl | ⟨rfl, hn⟩
    · have := lines_lf t (glue r) hp
      simp only [List.append_assoc, List.cons_append, List.nil_append, this, ih, List.map_cons]
    · have := lines_crlf t (glue r) hp
      simp only [List.append_assoc, List.cons_append, List.nil_append, this, ih, List.map_cons]
    · have := lines_cr t (glue r) hp hn
      simp only [List.append_assoc, List.cons_append, List.nil_append, this, ih, List.map_cons]
end Ru
