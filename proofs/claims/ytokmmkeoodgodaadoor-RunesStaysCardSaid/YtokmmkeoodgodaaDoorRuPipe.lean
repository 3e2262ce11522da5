/- The plain layer: no program, no memory. -/
import Derived.Test.YtokmmkeoodgodaaDoorRuFold
import Derived.Test.YtokmmkeoodgodaaDoorRuLines
import Derived.Lib.IndexAny
namespace Ru
open Go.Lib (encodeRune encodeRuneZ mapD mapGoD decodeL goFieldsP spansFromP spansOfP closeSpans join joinTail)

theorem getD_drop (l : List UInt8) (i j : Nat) : (l.drop i).getD j 0 = l.getD (i + j) 0 := by
  simp [List.getD_eq_getElem?_getD, List.getElem?_drop]
theorem size_list (s : ByteArray) : s.data.toList.length = s.size := by simp
/-- the model's own decoder -/
theorem decode_dec (s : ByteArray) (i : Nat) : Go.Utf8.decode s i = dec (s.data.toList.drop i) := by
  rw [Go.Lib.decode_at]
  unfold dec
  simp only [getD_drop, Go.Lib.getD_get!', Nat.add_zero, List.length_drop, size_list]
theorem decodeL_dec (l : List UInt8) : decodeL l = dec l := by
  unfold decodeL; rw [decode_dec]; simp

theorem enc_encodeRune (r : Nat) (h : ok r) : encodeRune (r : Int) = enc r := by
  unfold ok at h
  unfold encodeRune enc
  by_cases h1 : r < 128
  · rw [if_pos h1, Go.Lib.encodeRuneZ_one (by omega) (by omega)]; simp
  rw [if_neg h1]
  by_cases h2 : r < 2048
  · rw [if_pos h2, Go.Lib.encodeRuneZ_two (by omega) (by omega)]
    simp only [List.map_cons, List.map_nil, List.cons.injEq, and_true]
    refine ⟨congrArg Nat.toUInt8 (by omega), congrArg Nat.toUInt8 (by omega)⟩
  rw [if_neg h2]
  by_cases h3 : r < 65536
  · rw [if_pos h3, Go.Lib.encodeRuneZ_three (by omega)]
    simp only [List.map_cons, List.map_nil, List.cons.injEq, and_true]
    refine ⟨congrArg Nat.toUInt8 (by omega), congrArg Nat.toUInt8 (by omega), congrArg Nat.toUInt8 (by omega)⟩
  · rw [if_neg h3, Go.Lib.encodeRuneZ_four (by omega) (by omega)]
    simp only [List.map_cons, List.map_nil, List.cons.injEq, and_true]
    refine ⟨congrArg Nat.toUInt8 (by omega), congrArg Nat.toUInt8 (by omega), congrArg Nat.toUInt8 (by omega), congrArg Nat.toUInt8 (by omega)⟩

/-- small on numbers as the program has them -/
def smallI (x : Int) : Int := if 0 ≤ x then (smallN x.toNat : Int) else x
theorem smallN_ok {r : Nat} (h : ok r) : ok (smallN r) := by
  unfold smallN ok at *
  repeat' split
  all_goals omega
theorem mapD_small (l : List UInt8) : mapD smallI l = ((runes l).map smallN).flatMap enc := by
  have key : ∀ (n : Nat) (l : List UInt8), l.length ≤ n → mapGoD smallI n l = ((runes l).map smallN).flatMap enc := by
    intro n
    induction n with
    | zero =>
      intro l hl
      have : l = [] := List.length_eq_zero_iff.1 (by omega)
      subst this; rfl
    | succ n ih =>
      intro l hl
      unfold mapGoD
      by_cases h : l = []
      · subst h; simp [runes_nil]
      · have hp := dec_pos l h
        rw [if_neg h, runes_cons l h, decodeL_dec, ih _ (by rw [List.length_drop]; omega)]
        have e : smallI ((dec l).1 : Int) = (smallN (dec l).1 : Int) := by simp [smallI]
        rw [e, if_pos (by omega), enc_encodeRune _ (smallN_ok (dec_ok l))]
        simp
  exact key l.length l (Nat.le_refl _)

/-! FieldsFunc's pieces -/
/-- places that are come to, character by character -/
inductive Bnd : List UInt8 → Nat → Prop
  | zero (l : List UInt8) : Bnd l 0
  | step (l : List UInt8) (k : Nat) (h : l ≠ []) (hb : Bnd (l.drop (dec l).2) k) : Bnd l ((dec l).2 + k)
theorem Bnd.le : ∀ {l : List UInt8} {k : Nat}, Bnd l k → k ≤ l.length
  | _, _, .zero _ => Nat.zero_le _
  | _, _, .step l k h hb => by
    have := hb.le; have hp := dec_pos l h
    rw [List.length_drop] at this; omega
theorem Bnd.parts : ∀ {l : List UInt8} {k : Nat}, Bnd l k → runes l = runes (l.take k) ++ runes (l.drop k)
  | _, _, .zero l => by simp [runes_nil]
  | _, _, .step l k h hb => by
    have ih := hb.parts
    have hp := dec_pos l h
    have hne : l.take ((dec l).2 + k) ≠ [] := by
      intro h0
      have := congrArg List.length h0
      have hl : 1 ≤ l.length := List.length_pos_iff.2 h
      rw [List.length_take, List.length_nil] at this; omega
    rw [runes_cons l h, runes_cons _ hne, dec_take l _ (by omega) h, ih]
    rw [List.drop_take, List.drop_drop]
    simp
theorem Bnd.more {l : List UInt8} {k : Nat} (hb : Bnd l k) (h : l.drop k ≠ []) : Bnd l (k + (dec (l.drop k)).2) := by
  induction hb with
  | zero l =>
    have := Bnd.step l 0 (by simpa using h) (.zero _)
    simpa using this
  | step l k hn hb ih =>
    rw [← List.drop_drop] at h ⊢
    have := Bnd.step l _ hn (ih h)
    rw [Nat.add_assoc]; exact this

def pc (l : List UInt8) (a b : Nat) : List UInt8 := (l.drop a).take (b - a)
theorem extract_pc (s : ByteArray) (a b : Nat) : (s.extract a b).data.toList = pc s.data.toList a b := by
  unfold pc
  simp [ByteArray.data_extract, Array.toList_extract]

theorem spans_words (s : ByteArray) : ∀ (f pos : Nat) (st : Option Nat) (acc : List (Nat × Nat)), s.size ≤ pos + f → pos ≤ s.size →
    (∀ a, st = some a → a < pos ∧ Bnd (s.data.toList.drop a) (pos - a)) →
    ((closeSpans s (spansFromP spaceN s f pos st acc)).map fun x => runes (pc s.data.toList x.1 x.2)) =
      (acc.map fun x => runes (pc s.data.toList x.1 x.2)) ++ wordsG (match st with | some a => runes (pc s.data.toList a pos) | none => []) (runes (s.data.toList.drop pos)) := by
  intro f
  induction f with
  | zero =>
    intro pos st acc h1 h2 hst
    have hd : s.data.toList.drop pos = [] := List.drop_eq_nil_of_le (by rw [size_list]; omega)
    simp only [spansFromP, hd, runes_nil, wordsG]
    cases st with
    | none => simp [closeSpans]
    | some a =>
      have ha := hst a rfl
      have hne : runes (pc s.data.toList a pos) ≠ [] := by
        rw [runes_cons]
        · simp
        · intro h0
          have := congrArg List.length h0
          unfold pc at this
          rw [List.length_take, List.length_drop, size_list] at this; simp at this; omega
      rw [if_neg hne]
      have : pos = s.size := by omega
      subst this
      simp [closeSpans]
  | succ f ih =>
    intro pos st acc h1 h2 hst
    by_cases hp : pos < s.size
    · have hdl : s.data.toList.drop pos ≠ [] := by
        intro h0
        have := congrArg List.length h0
        rw [List.length_drop, size_list] at this; simp at this; omega
      have hw := dec_pos _ hdl
      rw [List.length_drop, size_list] at hw
      simp only [spansFromP, hp, if_true, decode_dec]
      rw [runes_cons _ hdl, List.drop_drop]
      generalize hr : (dec (s.data.toList.drop pos)).1 = r
      generalize hwd : (dec (s.data.toList.drop pos)).2 = w at hw ⊢
      by_cases hs : spaceN r = true
      · simp only [hs, if_true]
        cases st with
        | none =>
          rw [ih (pos + w) none acc (by omega) (by omega) (by intro a h; cases h)]
          simp [wordsG, hs]
        | some a =>
          have ha := hst a rfl
          simp only
          rw [ih (pos + w) none _ (by omega) (by omega) (by intro a h; cases h)]
          have hne : runes (pc s.data.toList a pos) ≠ [] := by
            rw [runes_cons]
            · simp
            · intro h0
              have := congrArg List.length h0
              unfold pc at this
              rw [List.length_take, List.length_drop, size_list] at this; simp at this; omega
          simp [wordsG, hs, hne]
      · have hs' : spaceN r = false := by simpa using hs
        simp only [hs', Bool.false_eq_true, if_false]
        cases st with
        | none =>
          have hb := Bnd.step (s.data.toList.drop pos) 0 hdl (.zero _)
          rw [Nat.add_zero, hwd] at hb
          simp only
          rw [ih (pos + w) (some pos) acc (by omega) (by omega) (by intro a h; cases h; exact ⟨by omega, by rw [show pos + w - pos = w by omega]; exact hb⟩)]
          have e1 : runes (pc s.data.toList pos (pos + w)) = [r] := by
            unfold pc
            rw [show pos + w - pos = w by omega]
            have hne : (s.data.toList.drop pos).take w ≠ [] := by
              intro h0
              have := congrArg List.length h0
              rw [List.length_take, List.length_drop, size_list] at this; simp at this; omega
            rw [runes_cons _ hne, dec_take _ w (by omega) hdl, hr, hwd, List.drop_take]
            simp [runes_nil]
          simp [wordsG, hs', e1]
        | some a =>
          have ha := hst a rfl
          have hb := ha.2.more (by rw [List.drop_drop, show a + (pos - a) = pos by omega]; exact hdl)
          rw [List.drop_drop, show a + (pos - a) = pos by omega, hwd] at hb
          simp only
          rw [ih (pos + w) (some a) acc (by omega) (by omega) (by intro b h; cases h; exact ⟨by omega, by rw [show pos + w - a = pos - a + w by omega]; exact hb⟩)]
          have p1 := ha.2.parts
          have p2 := hb.parts
          rw [List.drop_drop, show a + (pos - a) = pos by omega, runes_cons _ hdl, hr, hwd, List.drop_drop] at p1
          rw [List.drop_drop, show a + (pos - a + w) = pos + w by omega] at p2
          have e1 : runes (pc s.data.toList a (pos + w)) = runes (pc s.data.toList a pos) ++ [r] := by
            unfold pc
            rw [show pos + w - a = pos - a + w by omega]
            have := p2.symm.trans p1
            have e2 : runes (List.take (pos - a) (List.drop a s.data.toList)) ++ r :: runes (List.drop (pos + w) s.data.toList) = (runes (List.take (pos - a) (List.drop a s.data.toList)) ++ [r]) ++ runes (List.drop (pos + w) s.data.toList) := by simp
            rw [e2] at this
            exact List.append_cancel_right this
          simp [wordsG, hs', e1]
    · have hd : s.data.toList.drop pos = [] := List.drop_eq_nil_of_le (by rw [size_list]; omega)
      rw [Go.Lib.spansFromP_end _ _ _ _ _ _ hp]
      have := ih pos st acc (by omega) h2 hst
      rw [Go.Lib.spansFromP_end _ _ _ _ _ _ hp] at this
      exact this

theorem fields_words (s : ByteArray) : (goFieldsP spaceN s).map (fun x => runes x.data.toList) = wordsG [] (runes s.data.toList) := by
  unfold goFieldsP spansOfP
  rw [List.map_map]
  have := spans_words s s.size 0 none [] (by omega) (by omega) (by intro a h; cases h)
  simp only [List.map_nil, List.nil_append, List.drop_zero] at this
  rw [← this]
  apply List.map_congr_left
  intro x _
  simp only [Function.comp, extract_pc]

theorem runes_join : ∀ ws : List (List UInt8), runes (join ws [32]) = glueW (ws.map runes)
  | [] => rfl
  | [w] => by rw [Go.Lib.join_one]; rfl
  | w :: v :: r => by
    have ih := runes_join (v :: r)
    rw [Go.Lib.join_cons] at ih ⊢
    have e : joinTail [32] (v :: r) = 32 :: (v ++ joinTail [32] r) := by simp [joinTail]
    rw [e, runes_ascii _ _ 32 (by decide), ih]
    rfl

/-- FieldsFunc, Join, Map -/
theorem pipe (s : ByteArray) : mapD smallI (join ((goFieldsP spaceN s).map (·.data.toList)) [32]) = ((glueW (wordsG [] (runes s.data.toList))).map smallN).flatMap enc := by
  rw [mapD_small, runes_join, List.map_map]
  have := fields_words s
  rw [show (runes ∘ fun x : ByteArray => x.data.toList) = (fun x : ByteArray => runes x.data.toList) from rfl, this]

/-! the replacer -/
def replB : Nat → List UInt8 → List UInt8
  | 0, _ => []
  | n + 1, l => match l with
    | [] => []
    | b :: t => if b = 195 ∧ t.head? = some 159 then 115 :: 115 :: replB n t.tail
      else if b = 225 ∧ t.head? = some 186 ∧ t.tail.head? = some 158 then 115 :: 115 :: replB n t.tail.tail
      else b :: replB n t
def replL (l : List UInt8) : List UInt8 := replB l.length l
theorem replB_more : ∀ (n m : Nat) (l : List UInt8), l.length ≤ n → l.length ≤ m → replB n l = replB m l
  | 0, 0, _, _, _ => rfl
  | 0, m + 1, l, h, _ => by
    have : l = [] := List.length_eq_zero_iff.1 (by omega)
    subst this; rfl
  | n + 1, 0, l, _, h => by
    have : l = [] := List.length_eq_zero_iff.1 (by omega)
    subst this; rfl
  | n + 1, m + 1, [], _, _ => rfl
  | n + 1, m + 1, b :: t, hn, hm => by
    simp only [List.length_cons] at hn hm
    have h1 : t.tail.length ≤ t.length := by simp
    have h2 : t.tail.tail.length ≤ t.length := by simp; omega
    simp only [replB]
    rw [replB_more n m t (by omega) (by omega), replB_more n m t.tail (by omega) (by omega), replB_more n m t.tail.tail (by omega) (by omega)]
theorem replL_nil : replL [] = [] := rfl
theorem replL_cons (b : UInt8) (t : List UInt8) : replL (b :: t) = if b = 195 ∧ t.head? = some 159 then 115 :: 115 :: replL t.tail
      else if b = 225 ∧ t.head? = some 186 ∧ t.tail.head? = some 158 then 115 :: 115 :: replL t.tail.tail
      else b :: replL t := by
  have h1 : t.tail.length ≤ t.length := by simp
  have h2 : t.tail.tail.length ≤ t.length := by simp; omega
  unfold replL
  simp only [List.length_cons, replB]
  rw [replB_more t.length t.tail.length t.tail h1 (Nat.le_refl _), replB_more t.length t.tail.tail.length t.tail.tail h2 (Nat.le_refl _)]
theorem replL_skip (b : UInt8) (t : List UInt8) (h1 : b ≠ 195) (h2 : b ≠ 225) : replL (b :: t) = b :: replL t := by
  rw [replL_cons, if_neg (fun x => h1 x.1), if_neg (fun x => h2 x.1)]
theorem u8ne (n : Nat) (c : UInt8) (h : n < 256) (hc : n ≠ c.toNat) : n.toUInt8 ≠ c := fun e => hc (by rw [← e, u8 n h])
theorem u8eq (n : Nat) (c : UInt8) (h : n < 256) (hc : n.toUInt8 = c) : n = c.toNat := by rw [← hc, u8 n h]
theorem repl_enc (r : Nat) (h : ok r) (t : List UInt8) : replL (enc r ++ t) = (sharp r).flatMap enc ++ replL t := by
  unfold ok at h
  by_cases e1 : r = 223
  · subst e1
    have : enc 223 = [195, 159] := by decide
    rw [this]
    simp only [List.cons_append, List.nil_append, replL_cons 195, List.head?_cons, List.tail_cons, and_self, if_true]
    rfl
  by_cases e2 : r = 7838
  · subst e2
    have : enc 7838 = [225, 186, 158] := by decide
    rw [this]
    simp only [List.cons_append, List.nil_append, replL_cons 225, List.head?_cons, List.tail_cons, and_self, if_true]
    rw [if_neg (by decide)]
    rfl
  have hs : sharp r = [r] := by unfold sharp; rw [if_neg (by omega)]
  rw [hs, List.flatMap_cons, List.flatMap_nil, List.append_nil]
  unfold enc
  by_cases h1 : r < 128
  · rw [if_pos h1]
    exact replL_skip _ _ (u8ne _ _ (by omega) (by have : (195 : UInt8).toNat = 195 := rfl; omega)) (u8ne _ _ (by omega) (by have : (225 : UInt8).toNat = 225 := rfl; omega))
  rw [if_neg h1]
  have c195 : (195 : UInt8).toNat = 195 := rfl
  have c225 : (225 : UInt8).toNat = 225 := rfl
  have c159 : (159 : UInt8).toNat = 159 := rfl
  have c186 : (186 : UInt8).toNat = 186 := rfl
  have c158 : (158 : UInt8).toNat = 158 := rfl
  have tailb : ∀ (x : Nat), ∀ t : List UInt8, replL ((128 + x % 64).toUInt8 :: t) = (128 + x % 64).toUInt8 :: replL t :=
    fun x t => replL_skip _ _ (u8ne _ _ (by omega) (by omega)) (u8ne _ _ (by omega) (by omega))
  by_cases h2 : r < 2048
  · rw [if_pos h2]
    simp only [List.cons_append, List.nil_append]
    rw [replL_cons, if_neg, if_neg, tailb]
    · rintro ⟨a, _⟩
      have := u8eq _ _ (by omega) a; omega
    · rintro ⟨a, b⟩
      have := u8eq _ _ (by omega) a
      simp only [List.head?_cons, Option.some.injEq] at b
      have := u8eq _ _ (by omega) b; omega
  rw [if_neg h2]
  by_cases h3 : r < 65536
  · rw [if_pos h3]
    simp only [List.cons_append, List.nil_append]
    rw [replL_cons, if_neg, if_neg, tailb, tailb]
    · rintro ⟨a, b, c⟩
      have := u8eq _ _ (by omega) a
      simp only [List.head?_cons, Option.some.injEq, List.tail_cons] at b c
      have := u8eq _ _ (by omega) b
      have := u8eq _ _ (by omega) c; omega
    · rintro ⟨a, _⟩
      have := u8eq _ _ (by omega) a; omega
  · rw [if_neg h3]
    simp only [List.cons_append, List.nil_append]
    rw [replL_cons, if_neg, if_neg, tailb, tailb, tailb]
    · rintro ⟨a, _⟩
      have := u8eq _ _ (by omega) a; omega
    · rintro ⟨a, _⟩
      have := u8eq _ _ (by omega) a; omega
theorem repl_flat : ∀ (rs : List Nat), (∀ r ∈ rs, ok r) → replL (rs.flatMap enc) = (rs.flatMap sharp).flatMap enc
  | [], _ => rfl
  | r :: rs, h => by
    rw [List.flatMap_cons, repl_enc r (h r (by simp)), repl_flat rs (fun x hx => h x (by simp [hx]))]
    simp
/-- the program's way is the document's -/
theorem fold_pipe (s : ByteArray) : replL (mapD smallI (join ((goFieldsP spaceN s).map (·.data.toList)) [32])) = foldL s.data.toList := by
  rw [pipe, repl_flat]
  · unfold foldL
    rw [foldR_words]
    congr 1
    rw [List.flatMap_map]
    rfl
  · intro r hr
    obtain ⟨x, hx, rfl⟩ := List.mem_map.1 hr
    apply smallN_ok
    have key : ∀ ws : List (List Nat), (∀ w ∈ ws, ∀ r ∈ w, ok r) → ∀ r ∈ glueW ws, ok r := by
      intro ws
      induction ws with
      | nil => intro _ r hr; simp [glueW] at hr
      | cons w r ih =>
        intro hw y hy
        cases r with
        | nil => exact hw w (by simp) y (by simpa [glueW] using hy)
        | cons v r =>
          simp only [glueW, List.mem_append, List.mem_cons] at hy
          rcases hy with hy | rfl | hy
          · exact hw w (by simp) y hy
          · unfold ok; omega
          · exact ih (fun u hu => hw u (by simp at hu ⊢; right; exact hu)) y hy
    refine key _ (fun w hw r hr => ?_) x hx
    have key2 : ∀ (rs cur : List Nat), (∀ r ∈ rs, ok r) → (∀ r ∈ cur, ok r) → ∀ w ∈ wordsG cur rs, ∀ r ∈ w, ok r := by
      intro rs
      induction rs with
      | nil =>
        intro cur _ hc w hw
        simp only [wordsG] at hw
        split at hw
        · simp at hw
        · simp at hw; subst hw; exact hc
      | cons r t ih =>
        intro cur hr hc w hw
        simp only [wordsG] at hw
        split at hw
        · rcases List.mem_append.1 hw with hw | hw
          · split at hw
            · simp at hw
            · simp at hw; subst hw; exact hc
          · exact ih [] (fun y hy => hr y (by simp [hy])) (fun y hy => by cases hy) w hw
        · exact ih (cur ++ [r]) (fun y hy => hr y (by simp [hy])) (fun y hy => by
            rcases List.mem_append.1 hy with hy | hy
            · exact hc y hy
            · simp at hy; subst hy; exact hr y (by simp)) w hw
    exact key2 (runes s.data.toList) [] (runes_ok _) (fun y hy => by cases hy) w hw r hr
end Ru
namespace Ru
/-- A3 -/
def markN (r : Nat) : Bool := (decide (33 ≤ r) && decide (r ≤ 47)) || (decide (58 ≤ r) && decide (r ≤ 64)) || (decide (91 ≤ r) && decide (r ≤ 96)) || (decide (123 ≤ r) && decide (r ≤ 126))
def inN (r lo hi : Nat) : Bool := decide (lo ≤ r) && decide (r ≤ hi)
def punctN (r : Nat) : Bool := markN r || inN r 0xA1 0xA9 || inN r 0xAB 0xB1 || r == 0xB4 || inN r 0xB6 0xB8 || r == 0xBB || r == 0xBF || r == 0xD7 || r == 0xF7 || inN r 0x2010 0x2027 || inN r 0x2030 0x205E || inN r 0x20A0 0x20C0 || inN r 0x2190 0x21FF || inN r 0x3001 0x3003 || inN r 0x3008 0x3011
def punctI (x : Int) : Bool := decide (0 ≤ x) && punctN x.toNat
end Ru
namespace Ru
theorem idx_cases : ∀ l : List UInt8, (Go.Lib.indexAny l [13, 10] = -1 ∧ plain l) ∨ ∃ p c t, l = p ++ c :: t ∧ plain p ∧ (c = 13 ∨ c = 10) ∧ Go.Lib.indexAny l [13, 10] = (p.length : Int)
  | [] => .inl ⟨rfl, fun b hb => by cases hb⟩
  | b :: l => by
    by_cases hb : b = 13 ∨ b = 10
    · refine .inr ⟨[], b, l, rfl, fun x hx => (by cases hx), hb, ?_⟩
      unfold Go.Lib.indexAny
      rw [if_pos (by rcases hb with rfl | rfl <;> rfl)]; rfl
    · have hc : ([13, 10] : List UInt8).contains b = false := by
        have h1 : b ≠ 13 := fun e => hb (.inl e)
        have h2 : b ≠ 10 := fun e => hb (.inr e)
        simp [h1, h2]
      rcases idx_cases l with ⟨h, hp⟩ | ⟨p, c, t, rfl, hp, hc', h⟩
      · refine .inl ⟨?_, ?_⟩
        · unfold Go.Lib.indexAny; rw [hc, h]; rfl
        · intro x hx
          rcases List.mem_cons.1 hx with rfl | hx
          · exact ⟨fun e => hb (.inr e), fun e => hb (.inl e)⟩
          · exact hp x hx
      · refine .inr ⟨b :: p, c, t, rfl, ?_, hc', ?_⟩
        · intro x hx
          rcases List.mem_cons.1 hx with rfl | hx
          · exact ⟨fun e => hb (.inr e), fun e => hb (.inl e)⟩
          · exact hp x hx
        · unfold Go.Lib.indexAny; rw [hc, h]
          have : ((p.length : Int) == -1) = false := by rw [beq_eq_false_iff_ne]; omega
          simp only [Bool.false_eq_true, if_false, this, List.length_cons]
          omega
end Ru
