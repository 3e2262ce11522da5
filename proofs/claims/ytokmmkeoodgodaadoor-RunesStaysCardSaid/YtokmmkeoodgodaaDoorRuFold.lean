/- The plain layer: no program, no memory. -/
import Derived.Test.YtokmmkeoodgodaaDoorRuPlain
import Derived.Lib.FieldsP
import Derived.Lib.MapU
import Derived.Lib.Join
namespace Ru
open Go.Lib (encodeRune encodeRuneZ mapD mapGoD decodeL goFieldsP spansFromP spansOfP closeSpans join joinTail)

/-- A3, A4 on characters -/
def spaceN (r : Nat) : Bool := r == 9 || r == 10 || r == 12 || r == 13 || r == 32 || r == 160 || r == 5760 || r == 8239 || r == 8287 || r == 12288 || (decide (8192 ≤ r) && decide (r ≤ 8202))
def smallN (r : Nat) : Nat :=
  if (65 ≤ r ∧ r ≤ 90) ∨ (192 ≤ r ∧ r ≤ 222 ∧ r ≠ 215) ∨ (913 ≤ r ∧ r ≤ 937) ∨ (1040 ≤ r ∧ r ≤ 1071) then r + 32
  else if 1024 ≤ r ∧ r ≤ 1039 then r + 80 else r
def sharp (r : Nat) : List Nat := if r = 223 ∨ r = 7838 then [115, 115] else [r]
def smallR (r : Nat) : List Nat := sharp (smallN r)

/-- the document's: 'gap': a blank stands ahead; 'out': what there is -/
def foldGo : Bool → List Nat → List Nat → List Nat
  | _, out, [] => out
  | gap, out, r :: t => if spaceN r then foldGo true out t else foldGo false (out ++ (if gap ∧ out ≠ [] then [32] else []) ++ smallR r) t
def foldR (rs : List Nat) : List Nat := foldGo false [] rs
def foldL (l : List UInt8) : List UInt8 := (foldR (runes l)).flatMap enc

def wordsG : List Nat → List Nat → List (List Nat)
  | cur, [] => if cur = [] then [] else [cur]
  | cur, r :: t => if spaceN r then (if cur = [] then [] else [cur]) ++ wordsG [] t else wordsG (cur ++ [r]) t
/-- words with one blank between -/
def glueW : List (List Nat) → List Nat
  | [] => []
  | [w] => w
  | w :: v :: r => w ++ 32 :: glueW (v :: r)

theorem glueW_snoc : ∀ (ws : List (List Nat)) (w : List Nat), glueW (ws ++ [w]) = if ws = [] then w else glueW ws ++ 32 :: w
  | [], w => rfl
  | [v], w => rfl
  | u :: v :: r, w => by
    have ih := glueW_snoc (v :: r) w
    simp only [List.cons_append] at ih ⊢
    rw [glueW, ih]
    simp [glueW]
theorem smallR_ne (r : Nat) : smallR r ≠ [] := by unfold smallR sharp; split <;> simp
theorem flat_ne (w : List Nat) (h : w ≠ []) : w.flatMap smallR ≠ [] := by
  cases w with
  | nil => exact absurd rfl h
  | cons a t => rw [List.flatMap_cons]; simp [smallR_ne]
theorem smallR_blank : smallR 32 = [32] := by decide

/-- words that were closed (ws), one that is open (cur) -/
theorem foldGo_words : ∀ (rs : List Nat) (ws : List (List Nat)) (cur : List Nat) (gap : Bool), (∀ w ∈ ws, w ≠ []) → (cur ≠ [] → gap = false) → (cur = [] → ws ≠ [] → gap = true) →
    foldGo gap ((glueW (ws ++ (if cur = [] then [] else [cur]))).flatMap smallR) rs = (glueW (ws ++ wordsG cur rs)).flatMap smallR
  | [], ws, cur, gap, _, _, _ => by simp only [foldGo, wordsG]
  | r :: t, ws, cur, gap, hw, h1, h2 => by
    by_cases hs : spaceN r = true
    · simp only [foldGo, wordsG, hs, if_true]
      by_cases hc : cur = []
      · subst hc
        have := foldGo_words t ws [] true hw (fun h => absurd rfl h) (fun _ _ => rfl)
        simpa using this
      · simp only [if_neg hc]
        have := foldGo_words t (ws ++ [cur]) [] true (by
          intro w hm; rcases List.mem_append.1 hm with hm | hm
          · exact hw w hm
          · simp at hm; subst hm; exact hc) (fun h => absurd rfl h) (fun _ _ => rfl)
        simpa using this
    · have hs' : spaceN r = false := by simpa using hs
      simp only [foldGo, wordsG, hs', Bool.false_eq_true, if_false]
      have ih := foldGo_words t ws (cur ++ [r]) false hw (fun _ => rfl) (fun h => by simp at h)
      rw [← ih]
      congr 1
      by_cases hc : cur = []
      · subst hc
        simp only [if_true, List.append_nil, List.nil_append, List.cons_ne_self, if_false]
        rw [glueW_snoc]
        by_cases hws : ws = []
        · subst hws; simp [glueW]
        · have hg := h2 rfl hws
          have hne : (glueW ws).flatMap smallR ≠ [] := by
            apply flat_ne
            cases ws with
            | nil => exact absurd rfl hws
            | cons w r => 
              have := hw w (by simp)
              cases r with
              | nil => simpa [glueW] using this
              | cons v r => simp [glueW]
          rw [if_neg hws, if_pos ⟨hg, hne⟩]
          simp [smallR_blank]
      · have hg := h1 hc
        subst hg
        simp only [if_neg hc, Bool.false_eq_true, false_and, if_false, List.append_nil]
        rw [if_neg (by simp), glueW_snoc, glueW_snoc]
        by_cases hws : ws = []
        · simp [hws]
        · simp [hws]
theorem foldR_words (rs : List Nat) : foldR rs = (glueW (wordsG [] rs)).flatMap smallR := by
  have := foldGo_words rs [] [] false (fun w h => by cases h) (fun _ => rfl) (fun _ h => absurd rfl h)
  simpa [foldR, glueW] using this

/-! idempotence, blanks at the ends -/
theorem words_cons_blank (cur : List Nat) (r : Nat) (t : List Nat) (h : spaceN r = true) : wordsG cur (r :: t) = (if cur = [] then [] else [cur]) ++ wordsG [] t := by
  simp [wordsG, h]
theorem words_append_blank : ∀ (rs cur : List Nat) (b : List Nat), (∀ r ∈ b, spaceN r = true) → wordsG cur (rs ++ b) = wordsG cur rs
  | [], cur, [], _ => rfl
  | [], cur, r :: b, h => by
    rw [List.nil_append, words_cons_blank _ _ _ (h r (by simp))]
    have := words_append_blank [] [] b (fun x hx => h x (by simp [hx]))
    rw [List.nil_append] at this
    rw [this]; simp [wordsG]
  | r :: rs, cur, b, h => by
    simp only [List.cons_append, wordsG]
    split
    · rw [words_append_blank rs [] b h]
    · rw [words_append_blank rs _ b h]
theorem words_ahead_blank : ∀ (b rs : List Nat), (∀ r ∈ b, spaceN r = true) → wordsG [] (b ++ rs) = wordsG [] rs
  | [], _, _ => rfl
  | r :: b, rs, h => by
    rw [List.cons_append, words_cons_blank _ _ _ (h r (by simp)), if_pos rfl, List.nil_append]
    exact words_ahead_blank b rs (fun x hx => h x (by simp [hx]))

/-- words without blanks, none empty, put together and parted again -/
theorem words_open (w : List Nat) (hw : ∀ r ∈ w, spaceN r = false) : ∀ (cur t : List Nat), wordsG cur (w ++ t) = wordsG (cur ++ w) t := by
  induction w with
  | nil => simp
  | cons r w ih =>
    intro cur t
    rw [List.cons_append, wordsG, hw r (by simp)]
    simp only [Bool.false_eq_true, if_false]
    rw [ih (fun x hx => hw x (by simp [hx]))]
    simp
theorem words_glue : ∀ (ws : List (List Nat)), (∀ w ∈ ws, w ≠ [] ∧ ∀ r ∈ w, spaceN r = false) → wordsG [] (glueW ws) = ws
  | [], _ => rfl
  | [w], h => by
    have hw := h w (by simp)
    have := words_open w hw.2 [] []
    simp only [List.append_nil, List.nil_append] at this
    rw [glueW, this]; simp [wordsG, hw.1]
  | w :: v :: r, h => by
    have hw := h w (by simp)
    rw [glueW, words_open w hw.2, List.nil_append, words_cons_blank _ _ _ (by decide), if_neg hw.1, words_glue (v :: r) (fun x hx => h x (by simp [hx]))]
    rfl
theorem words_mem : ∀ (rs cur : List Nat), (∀ r ∈ cur, spaceN r = false) → ∀ w ∈ wordsG cur rs, w ≠ [] ∧ ∀ r ∈ w, spaceN r = false
  | [], cur, hc => by
    intro w hw
    simp only [wordsG] at hw
    split at hw
    · simp at hw
    · rename_i h; simp at hw; subst hw; exact ⟨h, hc⟩
  | r :: t, cur, hc => by
    intro w hw
    simp only [wordsG] at hw
    split at hw
    · rcases List.mem_append.1 hw with hw | hw
      · split at hw
        · simp at hw
        · rename_i h; simp at hw; subst hw; exact ⟨h, hc⟩
      · exact words_mem t [] (fun x hx => by cases hx) w hw
    · rename_i h
      exact words_mem t (cur ++ [r]) (fun x hx => by
        rcases List.mem_append.1 hx with hx | hx
        · exact hc x hx
        · simp at hx; subst hx; simpa using h) w hw
theorem glue_map (f : Nat → List Nat) (hf : f 32 = [32]) : ∀ ws : List (List Nat), (glueW ws).flatMap f = glueW (ws.map fun w => w.flatMap f)
  | [] => rfl
  | [w] => rfl
  | w :: v :: r => by
    have ih := glue_map f hf (v :: r)
    simp only [glueW, List.flatMap_append, List.flatMap_cons, hf, ih, List.map_cons]
    rfl
theorem small_notspace (r : Nat) (h : spaceN r = false) : ∀ x ∈ smallR r, spaceN x = false := by
  intro x hx
  unfold smallR sharp at hx
  split at hx
  · simp at hx; subst hx; decide
  · simp at hx; subst hx
    unfold smallN
    split
    · rename_i _ h1
      simp only [spaceN, Bool.or_eq_false_iff, beq_eq_false_iff_ne, Bool.and_eq_false_iff, decide_eq_false_iff_not] at h ⊢
      omega
    · split
      · simp only [spaceN, Bool.or_eq_false_iff, beq_eq_false_iff_ne, Bool.and_eq_false_iff, decide_eq_false_iff_not] at h ⊢
        omega
      · exact h
theorem small_small (r : Nat) : (smallR r).flatMap smallR = smallR r := by
  unfold smallR
  have h1 : smallN (smallN r) = smallN r := by
    unfold smallN
    split
    · rename_i h; rw [if_neg (by omega), if_neg (by omega)]
    · rename_i h1
      split
      · rw [if_neg (by omega), if_neg (by omega)]
      · rfl
  generalize smallN r = x at h1
  unfold sharp
  by_cases hx : x = 223 ∨ x = 7838
  · rw [if_pos hx]; decide
  · rw [if_neg hx]; simp only [List.flatMap_cons, List.flatMap_nil, List.append_nil, h1, if_neg hx]
theorem fold_fold (rs : List Nat) : foldR (foldR rs) = foldR rs := by
  rw [foldR_words rs, glue_map smallR smallR_blank, foldR_words, words_glue, glue_map smallR smallR_blank, List.map_map]
  · congr 1
    apply List.map_congr_left
    intro w _
    simp only [Function.comp, List.flatMap_assoc]
    congr 1
    funext r
    exact small_small r
  · intro w hw
    obtain ⟨v, hv, rfl⟩ := List.mem_map.1 hw
    have := words_mem rs [] (fun x hx => by cases hx) v hv
    refine ⟨flat_ne v this.1, ?_⟩
    intro r hr
    obtain ⟨x, hx, hr⟩ := List.mem_flatMap.1 hr
    exact small_notspace x (this.2 x hx) r hr
theorem fold_ok (rs : List Nat) (h : ∀ r ∈ rs, ok r) : ∀ r ∈ foldR rs, ok r := by
  have key : ∀ (rs : List Nat) (g : Bool) (out : List Nat), (∀ r ∈ rs, ok r) → (∀ r ∈ out, ok r) → ∀ r ∈ foldGo g out rs, ok r := by
    intro rs
    induction rs with
    | nil => intro g out _ ho; exact ho
    | cons x t ih =>
      intro g out hr ho
      simp only [foldGo]
      split
      · exact ih _ _ (fun y hy => hr y (by simp [hy])) ho
      · refine ih _ _ (fun y hy => hr y (by simp [hy])) ?_
        intro y hy
        rcases List.mem_append.1 hy with hy | hy
        · rcases List.mem_append.1 hy with hy | hy
          · exact ho y hy
          · split at hy
            · simp at hy; subst hy; unfold ok; omega
            · simp at hy
        · have hx := hr x (by simp)
          unfold smallR sharp at hy
          split at hy
          · simp at hy; subst hy; unfold ok; omega
          · simp at hy; subst hy
            unfold smallN ok at *
            repeat' split
            all_goals omega
  exact key rs false [] h (fun r hr => by cases hr)
theorem foldL_foldL (l : List UInt8) : foldL (foldL l) = foldL l := by
  have := runes_flat (foldR (runes l)) (fold_ok _ (runes_ok l)) []
  rw [List.append_nil, runes_nil, List.append_nil] at this
  unfold foldL
  rw [this, fold_fold]

/-! an ASCII byte behind some bytes parts them -/
theorem dec_ascii (u t : List UInt8) (c : UInt8) (hc : c.toNat < 128) (hu : u ≠ []) : dec (u ++ c :: t) = dec u := by
  have hl : 1 ≤ u.length := List.length_pos_iff.2 hu
  have hp := dec_pos u hu
  have hg : ∀ i, i < u.length → (u ++ c :: t).getD i 0 = u.getD i 0 := by
    intro i hi
    simp only [List.getD_eq_getElem?_getD, List.getElem?_append_left hi]
  by_cases hw : 2 ≤ (dec u).2
  · exact dec_keeps u _ (hg 0 (by omega)).symm hw (fun i h1 h2 => ⟨by simp; omega, hg i (by omega)⟩)
  by_cases hw' : 2 ≤ (dec (u ++ c :: t)).2
  · by_cases hk : (dec (u ++ c :: t)).2 ≤ u.length
    · exact (dec_keeps _ u (hg 0 (by omega)) hw' (fun i h1 h2 => ⟨by omega, (hg i (by omega)).symm⟩)).symm
    · exfalso
      have hcc : (u ++ c :: t).getD u.length 0 = c := by simp [List.getD_eq_getElem?_getD]
      revert hw' hk
      unfold dec
      by_cases k0 : ((u ++ c :: t).getD 0 0).toNat < 128
      · rw [dN_ascii _ _ _ _ _ k0]; simp
      by_cases k2 : ((u ++ c :: t).getD 0 0).toNat / 32 = 6
      · rw [dN_2 _ _ _ _ _ k2]
        split
        · rename_i p
          intro _ hk
          have : u.length = 1 := by simp only at hk; omega
          rw [this] at hcc; rw [hcc] at p; omega
        · simp
      by_cases k3 : ((u ++ c :: t).getD 0 0).toNat / 16 = 14
      · rw [dN_3 _ _ _ _ _ k3]
        split
        · rename_i p
          intro _ hk
          have : u.length = 1 ∨ u.length = 2 := by simp only at hk; omega
          rcases this with h | h <;> (rw [h] at hcc; rw [hcc] at p; omega)
        · simp
      by_cases k4 : ((u ++ c :: t).getD 0 0).toNat / 8 = 30
      · rw [dN_4 _ _ _ _ _ k4]
        split
        · rename_i p
          intro _ hk
          have : u.length = 1 ∨ u.length = 2 ∨ u.length = 3 := by simp only at hk; omega
          rcases this with h | h | h <;> (rw [h] at hcc; rw [hcc] at p; omega)
        · simp
      · rw [dN_bad _ _ _ _ _ ⟨by omega, k2, k3, k4⟩]; simp
  · rw [dec_one' _ (by omega), dec_one' u (by omega), hg 0 (by omega)]
theorem dec_one (c : UInt8) (t : List UInt8) (hc : c.toNat < 128) : dec (c :: t) = (c.toNat, 1) := by
  simp only [dec, List.getD_cons_zero]
  unfold Go.Lib.decodeN
  rw [if_pos hc]
theorem runes_ascii (u t : List UInt8) (c : UInt8) (hc : c.toNat < 128) : runes (u ++ c :: t) = runes u ++ c.toNat :: runes t := by
  generalize hn : u.length = n
  induction n using Nat.strongRecOn generalizing u with
  | _ n ih =>
    by_cases h : u = []
    · subst h
      rw [List.nil_append, runes_cons _ (by simp), dec_one c t hc, runes_nil]; simp
    · have hp := dec_pos u h
      rw [runes_cons (u ++ c :: t) (by simp), dec_ascii u t c hc h, runes_cons u h, List.drop_append_of_le_length hp.2, ih (u.drop (dec u).2).length (by rw [List.length_drop]; omega) _ rfl]
      rfl
theorem fold_ends (l : List UInt8) : foldL (32 :: 9 :: (l ++ [10, 32])) = foldL l := by
  have h1 : runes (32 :: 9 :: (l ++ [10, 32])) = 32 :: 9 :: runes (l ++ [10, 32]) := by
    have a := runes_ascii [] (9 :: (l ++ [10, 32])) 32 (by decide)
    have b := runes_ascii [] (l ++ [10, 32]) 9 (by decide)
    simp only [List.nil_append, runes_nil] at a b
    rw [a, b]; rfl
  have h2 : runes (l ++ [10, 32]) = runes l ++ [10, 32] := by
    have a := runes_ascii l [32] 10 (by decide)
    have b := runes_ascii [] [] 32 (by decide)
    simp only [List.nil_append, runes_nil] at b
    rw [a, b]; rfl
  unfold foldL
  rw [h1, h2, foldR_words, foldR_words]
  congr 3
  rw [show (32 :: 9 :: (runes l ++ [10, 32]) : List Nat) = [32, 9] ++ (runes l ++ [10, 32]) from rfl, words_ahead_blank _ _ (by decide), words_append_blank _ _ _ (by decide)]
end Ru
