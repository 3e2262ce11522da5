/- The plain layer: no program, no memory. -/
import Derived.Lib.DecodeNEq
import Derived.Lib.FieldsP
import Derived.Lib.MapU
import Derived.Lib.Join
import Derived.Lib.IndexAny
section
namespace Ru

/-- the character with which bytes begin, and its width -/
def dec (l : List UInt8) : Nat × Nat := Go.Lib.decodeN l.length (l.getD 0 0).toNat (l.getD 1 0).toNat (l.getD 2 0).toNat (l.getD 3 0).toNat

def ok (r : Nat) : Prop := r < 55296 ∨ (57344 ≤ r ∧ r ≤ 1114111)

/-- a character's bytes -/
def enc (r : Nat) : List UInt8 :=
  if r < 128 then [r.toUInt8]
  else if r < 2048 then [(192 + r / 64).toUInt8, (128 + r % 64).toUInt8]
  else if r < 65536 then [(224 + r / 4096).toUInt8, (128 + r / 64 % 64).toUInt8, (128 + r % 64).toUInt8]
  else [(240 + r / 262144).toUInt8, (128 + r / 4096 % 64).toUInt8, (128 + r / 64 % 64).toUInt8, (128 + r % 64).toUInt8]

theorem u8 (n : Nat) (h : n < 256) : n.toUInt8.toNat = n := by
  simp [Nat.toUInt8, UInt8.toNat_ofNat']; omega

theorem dec_pos (l : List UInt8) (h : l ≠ []) : 1 ≤ (dec l).2 ∧ (dec l).2 ≤ l.length := by
  have hl : 1 ≤ l.length := List.length_pos_iff.2 h
  unfold dec Go.Lib.decodeN
  repeat' split
  all_goals (simp only; omega)

theorem dec_ok (l : List UInt8) : ok (dec l).1 := by
  have h0 : (l.getD 0 0).toNat < 256 := UInt8.toNat_lt _
  unfold ok dec Go.Lib.decodeN
  repeat' split
  all_goals (simp only; omega)

set_option maxHeartbeats 1000000 in
theorem dec_enc (r : Nat) (h : ok r) (t : List UInt8) : dec (enc r ++ t) = (r, (enc r).length) := by
  unfold ok at h
  unfold enc
  by_cases h1 : r < 128
  · rw [if_pos h1]
    simp only [dec, List.cons_append, List.nil_append, List.getD_cons_zero, u8 r (by omega)]
    unfold Go.Lib.decodeN
    rw [if_pos h1]; rfl
  rw [if_neg h1]
  by_cases h2 : r < 2048
  · rw [if_pos h2]
    simp only [dec, List.cons_append, List.nil_append, List.getD_cons_zero, List.getD_cons_succ, u8 (192 + r / 64) (by omega), u8 (128 + r % 64) (by omega), List.length_cons]
    unfold Go.Lib.decodeN
    rw [if_neg (by omega), if_pos (by omega), if_pos (by omega)]
    simp only [Prod.mk.injEq]; refine ⟨by omega, by simp⟩
  rw [if_neg h2]
  by_cases h3 : r < 65536
  · rw [if_pos h3]
    simp only [dec, List.cons_append, List.nil_append, List.getD_cons_zero, List.getD_cons_succ, u8 (224 + r / 4096) (by omega), u8 (128 + r / 64 % 64) (by omega), u8 (128 + r % 64) (by omega), List.length_cons]
    unfold Go.Lib.decodeN
    rw [if_neg (by omega), if_neg (by omega), if_pos (by omega), if_pos (by omega)]
    simp only [Prod.mk.injEq]; refine ⟨by omega, by simp⟩
  · rw [if_neg h3]
    simp only [dec, List.cons_append, List.nil_append, List.getD_cons_zero, List.getD_cons_succ, u8 (240 + r / 262144) (by omega), u8 (128 + r / 4096 % 64) (by omega), u8 (128 + r / 64 % 64) (by omega), u8 (128 + r % 64) (by omega), List.length_cons]
    unfold Go.Lib.decodeN
    rw [if_neg (by omega), if_neg (by omega), if_neg (by omega), if_pos (by omega), if_pos (by omega)]
    simp only [Prod.mk.injEq]; refine ⟨by omega, by simp⟩

theorem enc_ne (r : Nat) : enc r ≠ [] := by
  unfold enc; repeat' split
  all_goals simp

/-! decodeN by the kind of its first byte -/
theorem dN_ascii (n b0 b1 b2 b3 : Nat) (h : b0 < 128) : Go.Lib.decodeN n b0 b1 b2 b3 = (b0, 1) := by unfold Go.Lib.decodeN; rw [if_pos h]
def g2 (b0 b1 : Nat) : Nat := b0 % 32 * 64 + b1 % 64
def g3 (b0 b1 b2 : Nat) : Nat := b0 % 16 * 4096 + b1 % 64 * 64 + b2 % 64
def g4 (b0 b1 b2 b3 : Nat) : Nat := b0 % 8 * 262144 + b1 % 64 * 4096 + b2 % 64 * 64 + b3 % 64
def gd (lo r : Nat) : Prop := lo ≤ r ∧ (r < 55296 ∨ (57344 ≤ r ∧ r ≤ 1114111))
instance (lo r : Nat) : Decidable (gd lo r) := inferInstanceAs (Decidable (_ ∧ _))
theorem dN_2 (n b0 b1 b2 b3 : Nat) (h : b0 / 32 = 6) : Go.Lib.decodeN n b0 b1 b2 b3 = if (1 < n ∧ b1 / 64 = 2) ∧ 128 ≤ g2 b0 b1 then (g2 b0 b1, 2) else (65533, 1) := by
  unfold Go.Lib.decodeN g2
  rw [if_neg (by omega)]
  by_cases p : 1 < n ∧ b1 / 64 = 2
  · rw [if_pos ⟨h, p⟩]
    by_cases q : 128 ≤ b0 % 32 * 64 + b1 % 64
    · rw [if_pos q, if_pos ⟨p, q⟩]
    · rw [if_neg (by omega), if_neg (fun x => q x.2)]
  · rw [if_neg (fun x => p x.2), if_neg (by omega), if_neg (by omega), if_neg (fun x => p x.1)]
theorem dN_3 (n b0 b1 b2 b3 : Nat) (h : b0 / 16 = 14) : Go.Lib.decodeN n b0 b1 b2 b3 = if ((1 < n ∧ b1 / 64 = 2) ∧ (2 < n ∧ b2 / 64 = 2)) ∧ gd 2048 (g3 b0 b1 b2) then (g3 b0 b1 b2, 3) else (65533, 1) := by
  unfold Go.Lib.decodeN g3 gd
  rw [if_neg (by omega), if_neg (by omega)]
  by_cases p : (1 < n ∧ b1 / 64 = 2) ∧ (2 < n ∧ b2 / 64 = 2)
  · rw [if_pos ⟨h, p⟩]
    by_cases q : 2048 ≤ b0 % 16 * 4096 + b1 % 64 * 64 + b2 % 64 ∧ (b0 % 16 * 4096 + b1 % 64 * 64 + b2 % 64 < 55296 ∨ (57344 ≤ b0 % 16 * 4096 + b1 % 64 * 64 + b2 % 64 ∧ b0 % 16 * 4096 + b1 % 64 * 64 + b2 % 64 ≤ 1114111))
    · rw [if_pos q, if_pos ⟨p, q⟩]
    · rw [if_neg q, if_neg (fun x => q x.2)]
  · rw [if_neg (fun x => p x.2), if_neg (by omega), if_neg (fun x => p x.1)]
theorem dN_4 (n b0 b1 b2 b3 : Nat) (h : b0 / 8 = 30) : Go.Lib.decodeN n b0 b1 b2 b3 = if ((1 < n ∧ b1 / 64 = 2) ∧ (2 < n ∧ b2 / 64 = 2) ∧ (3 < n ∧ b3 / 64 = 2)) ∧ gd 65536 (g4 b0 b1 b2 b3) then (g4 b0 b1 b2 b3, 4) else (65533, 1) := by
  unfold Go.Lib.decodeN g4 gd
  rw [if_neg (by omega), if_neg (by omega), if_neg (by omega)]
  by_cases p : (1 < n ∧ b1 / 64 = 2) ∧ (2 < n ∧ b2 / 64 = 2) ∧ (3 < n ∧ b3 / 64 = 2)
  · rw [if_pos ⟨h, p⟩]
    by_cases q : 65536 ≤ b0 % 8 * 262144 + b1 % 64 * 4096 + b2 % 64 * 64 + b3 % 64 ∧ (b0 % 8 * 262144 + b1 % 64 * 4096 + b2 % 64 * 64 + b3 % 64 < 55296 ∨ (57344 ≤ b0 % 8 * 262144 + b1 % 64 * 4096 + b2 % 64 * 64 + b3 % 64 ∧ b0 % 8 * 262144 + b1 % 64 * 4096 + b2 % 64 * 64 + b3 % 64 ≤ 1114111))
    · rw [if_pos q, if_pos ⟨p, q⟩]
    · rw [if_neg q, if_neg (fun x => q x.2)]
  · rw [if_neg (fun x => p x.2), if_neg (fun x => p x.1)]
theorem dN_bad (n b0 b1 b2 b3 : Nat) (h : 128 ≤ b0 ∧ b0 / 32 ≠ 6 ∧ b0 / 16 ≠ 14 ∧ b0 / 8 ≠ 30) : Go.Lib.decodeN n b0 b1 b2 b3 = (65533, 1) := by
  unfold Go.Lib.decodeN
  rw [if_neg (by omega), if_neg (fun x => h.2.1 x.1), if_neg (fun x => h.2.2.1 x.1), if_neg (fun x => h.2.2.2 x.1)]
/-- the bytes that a character has decide it -/
theorem dN_keeps (n n' b0 b1 b2 b3 c1 c2 c3 : Nat) (w : Nat) (hw : w = (Go.Lib.decodeN n b0 b1 b2 b3).2) (hw2 : 2 ≤ w)
    (h1 : 1 < n → 1 < w → 1 < n' ∧ c1 = b1) (h2 : 2 < n → 2 < w → 2 < n' ∧ c2 = b2) (h3 : 3 < n → 3 < w → 3 < n' ∧ c3 = b3) :
    Go.Lib.decodeN n' b0 c1 c2 c3 = Go.Lib.decodeN n b0 b1 b2 b3 := by
  by_cases k0 : b0 < 128
  · rw [dN_ascii _ _ _ _ _ k0] at hw; simp at hw; omega
  by_cases k2 : b0 / 32 = 6
  · rw [dN_2 _ _ _ _ _ k2] at hw ⊢
    rw [dN_2 _ _ _ _ _ k2]
    by_cases p : (1 < n ∧ b1 / 64 = 2) ∧ 128 ≤ g2 b0 b1
    · rw [if_pos p] at hw ⊢
      obtain ⟨a, rfl⟩ := h1 p.1.1 (by omega)
      rw [if_pos ⟨⟨a, p.1.2⟩, p.2⟩]
    · rw [if_neg p] at hw; simp at hw; omega
  by_cases k3 : b0 / 16 = 14
  · rw [dN_3 _ _ _ _ _ k3] at hw ⊢
    rw [dN_3 _ _ _ _ _ k3]
    by_cases p : ((1 < n ∧ b1 / 64 = 2) ∧ (2 < n ∧ b2 / 64 = 2)) ∧ gd 2048 (g3 b0 b1 b2)
    · rw [if_pos p] at hw ⊢
      simp only at hw
      obtain ⟨a, rfl⟩ := h1 p.1.1.1 (by omega)
      obtain ⟨a', rfl⟩ := h2 p.1.2.1 (by omega)
      rw [if_pos ⟨⟨⟨a, p.1.1.2⟩, ⟨a', p.1.2.2⟩⟩, p.2⟩]
    · rw [if_neg p] at hw; simp at hw; omega
  by_cases k4 : b0 / 8 = 30
  · rw [dN_4 _ _ _ _ _ k4] at hw ⊢
    rw [dN_4 _ _ _ _ _ k4]
    by_cases p : ((1 < n ∧ b1 / 64 = 2) ∧ (2 < n ∧ b2 / 64 = 2) ∧ (3 < n ∧ b3 / 64 = 2)) ∧ gd 65536 (g4 b0 b1 b2 b3)
    · rw [if_pos p] at hw ⊢
      simp only at hw
      obtain ⟨a, rfl⟩ := h1 p.1.1.1 (by omega)
      obtain ⟨a', rfl⟩ := h2 p.1.2.1.1 (by omega)
      obtain ⟨a'', rfl⟩ := h3 p.1.2.2.1 (by omega)
      rw [if_pos ⟨⟨⟨a, p.1.1.2⟩, ⟨a', p.1.2.1.2⟩, ⟨a'', p.1.2.2.2⟩⟩, p.2⟩]
    · rw [if_neg p] at hw; simp at hw; omega
  · rw [dN_bad _ _ _ _ _ ⟨by omega, k2, k3, k4⟩] at hw; simp at hw; omega
/-- one byte wide: the first byte decides, or there is none -/
theorem dN_one (n b0 b1 b2 b3 : Nat) (h : (Go.Lib.decodeN n b0 b1 b2 b3).2 < 2) : Go.Lib.decodeN n b0 b1 b2 b3 = if b0 < 128 then (b0, 1) else (65533, 1) := by
  by_cases k0 : b0 < 128
  · rw [dN_ascii _ _ _ _ _ k0, if_pos k0]
  rw [if_neg k0]
  by_cases k2 : b0 / 32 = 6
  · rw [dN_2 _ _ _ _ _ k2] at h ⊢
    split at h
    · simp at h
    · rename_i p; rw [if_neg p]
  by_cases k3 : b0 / 16 = 14
  · rw [dN_3 _ _ _ _ _ k3] at h ⊢
    split at h
    · simp at h
    · rename_i p; rw [if_neg p]
  by_cases k4 : b0 / 8 = 30
  · rw [dN_4 _ _ _ _ _ k4] at h ⊢
    split at h
    · simp at h
    · rename_i p; rw [if_neg p]
  · rw [dN_bad _ _ _ _ _ ⟨by omega, k2, k3, k4⟩]
/-- a character that stands at the beginning of some bytes stands at the beginning of those and more; and of so many of them as it has -/
theorem dec_keeps (l m : List UInt8) (h0 : l.getD 0 0 = m.getD 0 0) (hw : 2 ≤ (dec l).2) (h : ∀ i, i < l.length → i < (dec l).2 → i < m.length ∧ m.getD i 0 = l.getD i 0) : dec m = dec l := by
  unfold dec at hw h ⊢
  rw [← h0]
  refine dN_keeps _ _ _ _ _ _ _ _ _ _ rfl hw (fun a b => ?_) (fun a b => ?_) (fun a b => ?_)
  · have := h 1 a b; exact ⟨this.1, by rw [this.2]⟩
  · have := h 2 a b; exact ⟨this.1, by rw [this.2]⟩
  · have := h 3 a b; exact ⟨this.1, by rw [this.2]⟩
theorem dec_one' (l : List UInt8) (h : (dec l).2 < 2) : dec l = if (l.getD 0 0).toNat < 128 then ((l.getD 0 0).toNat, 1) else (65533, 1) := dN_one _ _ _ _ _ h
/-- the bytes of a wide character -/
theorem dN_high (n b0 b1 b2 b3 : Nat) (h : 2 ≤ (Go.Lib.decodeN n b0 b1 b2 b3).2) :
    128 ≤ b0 ∧ (1 < (Go.Lib.decodeN n b0 b1 b2 b3).2 → 128 ≤ b1) ∧ (2 < (Go.Lib.decodeN n b0 b1 b2 b3).2 → 128 ≤ b2) ∧ (3 < (Go.Lib.decodeN n b0 b1 b2 b3).2 → 128 ≤ b3) ∧ (Go.Lib.decodeN n b0 b1 b2 b3).2 ≤ 4 := by
  by_cases k0 : b0 < 128
  · rw [dN_ascii _ _ _ _ _ k0] at h; simp at h
  by_cases k2 : b0 / 32 = 6
  · rw [dN_2 _ _ _ _ _ k2] at h ⊢
    split at h
    · rename_i p; rw [if_pos p]; simp only; omega
    · simp at h
  by_cases k3 : b0 / 16 = 14
  · rw [dN_3 _ _ _ _ _ k3] at h ⊢
    split at h
    · rename_i p; rw [if_pos p]; simp only; omega
    · simp at h
  by_cases k4 : b0 / 8 = 30
  · rw [dN_4 _ _ _ _ _ k4] at h ⊢
    split at h
    · rename_i p; rw [if_pos p]; simp only; omega
    · simp at h
  · rw [dN_bad _ _ _ _ _ ⟨by omega, k2, k3, k4⟩] at h; simp at h
theorem dec_high (l : List UInt8) (h : 2 ≤ (dec l).2) (j : Nat) (hj : j < (dec l).2) : 128 ≤ (l.getD j 0).toNat := by
  obtain ⟨h0, h1, h2, h3, h4⟩ := dN_high _ _ _ _ _ h
  unfold dec at hj h
  rcases (by omega : j = 0 ∨ j = 1 ∨ j = 2 ∨ j = 3) with rfl | rfl | rfl | rfl
  · exact h0
  · exact h1 hj
  · exact h2 hj
  · exact h3 hj
theorem dec_rune_high (l : List UInt8) (h : 2 ≤ (dec l).2) : 128 ≤ (dec l).1 := by
  unfold dec at *
  generalize l.length = n at *; generalize (l.getD 0 0).toNat = b0 at *; generalize (l.getD 1 0).toNat = b1 at *; generalize (l.getD 2 0).toNat = b2 at *; generalize (l.getD 3 0).toNat = b3 at *
  by_cases k0 : b0 < 128
  · rw [dN_ascii _ _ _ _ _ k0] at h; simp at h
  by_cases k2 : b0 / 32 = 6
  · rw [dN_2 _ _ _ _ _ k2] at h ⊢
    split at h
    · rename_i p; rw [if_pos p]; exact p.2
    · simp at h
  by_cases k3 : b0 / 16 = 14
  · rw [dN_3 _ _ _ _ _ k3] at h ⊢
    split at h
    · rename_i p; rw [if_pos p]; have := p.2.1; simp only; omega
    · simp at h
  by_cases k4 : b0 / 8 = 30
  · rw [dN_4 _ _ _ _ _ k4] at h ⊢
    split at h
    · rename_i p; rw [if_pos p]; have := p.2.1; simp only; omega
    · simp at h
  · rw [dN_bad _ _ _ _ _ ⟨by omega, k2, k3, k4⟩] at h; simp at h
/-- cut behind it, the same -/
theorem dec_take (l : List UInt8) (k : Nat) (hk : (dec l).2 ≤ k) (hl : l ≠ []) : dec (l.take k) = dec l := by
  have hp := dec_pos l hl
  have hg : ∀ i, i < k → (l.take k).getD i 0 = l.getD i 0 := by
    intro i hi
    simp only [List.getD_eq_getElem?_getD, List.getElem?_take, if_pos hi]
  by_cases hw : 2 ≤ (dec l).2
  · refine dec_keeps l (l.take k) (hg 0 (by omega)).symm hw (fun i h1 h2 => ⟨by rw [List.length_take]; omega, hg i (by omega)⟩)
  · by_cases hw' : 2 ≤ (dec (l.take k)).2
    · have hs : ∀ i, i < (l.take k).length → i < k := fun i hi => by rw [List.length_take] at hi; omega
      exact (dec_keeps (l.take k) l (hg 0 (by omega)) hw' (fun i h1 _ => ⟨by rw [List.length_take] at h1; omega, (hg i (hs i h1)).symm⟩)).symm
    · rw [dec_one' _ (by omega), dec_one' l (by omega), hg 0 (by omega)]

def runesF : Nat → List UInt8 → List Nat
  | 0, _ => []
  | n + 1, l => if l = [] then [] else (dec l).1 :: runesF n (l.drop (dec l).2)
/-- the characters of some bytes -/
def runes (l : List UInt8) : List Nat := runesF l.length l

theorem runesF_more : ∀ (n m : Nat) (l : List UInt8), l.length ≤ n → l.length ≤ m → runesF n l = runesF m l
  | 0, 0, _, _, _ => rfl
  | 0, m + 1, l, h, _ => by
    have : l = [] := List.length_eq_zero_iff.1 (by omega)
    simp [runesF, this]
  | n + 1, 0, l, _, h => by
    have : l = [] := List.length_eq_zero_iff.1 (by omega)
    simp [runesF, this]
  | n + 1, m + 1, l, hn, hm => by
    by_cases h : l = []
    · simp [runesF, h]
    · have hp := dec_pos l h
      simp only [runesF, if_neg h]
      rw [runesF_more n m _ (by rw [List.length_drop]; omega) (by rw [List.length_drop]; omega)]

theorem runes_nil : runes [] = [] := rfl
theorem runes_cons (l : List UInt8) (h : l ≠ []) : runes l = (dec l).1 :: runes (l.drop (dec l).2) := by
  have hp := dec_pos l h
  have hl : 1 ≤ l.length := List.length_pos_iff.2 h
  obtain ⟨n, hn⟩ : ∃ n, l.length = n + 1 := ⟨l.length - 1, by omega⟩
  unfold runes
  rw [hn]
  simp only [runesF, if_neg h]
  rw [runesF_more n _ _ (by rw [List.length_drop]; omega) (Nat.le_refl _)]

theorem runes_ok (l : List UInt8) : ∀ r ∈ runes l, ok r := by
  generalize hn : l.length = n
  induction n using Nat.strongRecOn generalizing l with
  | _ n ih =>
    by_cases h : l = []
    · subst h; intro r hr; simp [runes_nil] at hr
    · have hp := dec_pos l h
      rw [runes_cons l h]
      intro r hr
      rcases List.mem_cons.1 hr with rfl | hr
      · exact dec_ok l
      · exact ih (l.drop (dec l).2).length (by rw [List.length_drop]; omega) _ rfl r hr

theorem runes_enc (r : Nat) (h : ok r) (t : List UInt8) : runes (enc r ++ t) = r :: runes t := by
  rw [runes_cons _ (by simp [enc_ne]), dec_enc r h t]
  simp

theorem runes_flat (rs : List Nat) (h : ∀ r ∈ rs, ok r) (t : List UInt8) : runes (rs.flatMap enc ++ t) = rs ++ runes t := by
  induction rs with
  | nil => simp
  | cons r rs ih =>
    rw [List.flatMap_cons, List.append_assoc, runes_enc r (h r (by simp)), ih (fun x hx => h x (by simp [hx]))]
    rfl

/-- A1 -/
def fix (r : Nat) : Nat := if r = 0 then 65533 else r
def cleanL (l : List UInt8) : List UInt8 := ((runes l).map fix).flatMap enc

theorem fix_ok {r : Nat} (h : ok r) : ok (fix r) := by
  unfold fix; split
  · unfold ok; omega
  · exact h
theorem fix_fix (r : Nat) : fix (fix r) = fix r := by unfold fix; split <;> simp_all

theorem cleanL_nil : cleanL [] = [] := rfl
theorem cleanL_cons (l : List UInt8) (h : l ≠ []) : cleanL l = enc (fix (dec l).1) ++ cleanL (l.drop (dec l).2) := by
  unfold cleanL; rw [runes_cons l h]; simp

theorem clean_flat (rs : List Nat) (h : ∀ r ∈ rs, ok r) : cleanL (rs.flatMap enc) = (rs.map fix).flatMap enc := by
  unfold cleanL
  have := runes_flat rs h []
  simp only [List.append_nil, runes_nil] at this
  rw [this]

theorem clean_clean (l : List UInt8) : cleanL (cleanL l) = cleanL l := by
  have hok : ∀ r ∈ (runes l).map fix, ok r := by
    intro r hr
    obtain ⟨x, hx, rfl⟩ := List.mem_map.1 hr
    exact fix_ok (runes_ok l x hx)
  show cleanL (((runes l).map fix).flatMap enc) = _
  rw [clean_flat _ hok, List.map_map]
  have : (fix ∘ fix) = fix := funext fix_fix
  rw [this]; rfl

/-- a text of right characters stays -/
theorem clean_stays (rs : List Nat) (h : ∀ r ∈ rs, ok r ∧ r ≠ 0) : cleanL (rs.flatMap enc) = rs.flatMap enc := by
  rw [clean_flat rs (fun r hr => (h r hr).1)]
  congr 1
  have : rs.map fix = rs.map id := List.map_congr_left (fun r hr => by unfold fix; rw [if_neg (h r hr).2]; rfl)
  rw [this, List.map_id]

/-- at each place that is come to within a cleaned text there stands a character -/
def Whole (l : List UInt8) : Prop := ∃ rs : List Nat, (∀ r ∈ rs, ok r ∧ r ≠ 0) ∧ l = rs.flatMap enc
theorem whole_clean (l : List UInt8) : Whole (cleanL l) := by
  refine ⟨(runes l).map fix, ?_, rfl⟩
  intro r hr
  obtain ⟨x, hx, rfl⟩ := List.mem_map.1 hr
  refine ⟨fix_ok (runes_ok l x hx), ?_⟩
  unfold fix; split <;> omega
theorem Whole.step {l : List UInt8} (h : Whole l) (hn : l ≠ []) : (dec l).1 ≠ 0 ∧ ¬ ((dec l).1 = 65533 ∧ (dec l).2 = 1) ∧ Whole (l.drop (dec l).2) := by
  obtain ⟨rs, hr, rfl⟩ := h
  cases rs with
  | nil => simp at hn
  | cons r rs =>
    rw [List.flatMap_cons, dec_enc r (hr r (by simp)).1]
    refine ⟨(hr r (by simp)).2, ?_, ⟨rs, fun x hx => hr x (by simp [hx]), by simp⟩⟩
    rintro ⟨h1, h2⟩
    simp only at h1 h2
    subst h1
    revert h2; decide

end Ru
end

section
namespace Ru

/-- A2: the lines of a text, 'cur' being what stands ahead in the line; 'cr': a carriage return stands just ahead -/
def linesC : List UInt8 → Bool → List UInt8 → List (List UInt8)
  | cur, _, [] => if cur = [] then [] else [cur]
  | cur, cr, b :: t =>
    if b = 10 then (if cr then linesC cur false t else cur :: linesC [] false t)
    else if b = 13 then cur :: linesC [] true t
    else linesC (cur ++ [b]) false t
def linesG (cur l : List UInt8) : List (List UInt8) := linesC cur false l
def linesL (l : List UInt8) : List (List UInt8) := linesG [] l

theorem linesC_cr (t : List UInt8) (h : t.head? ≠ some 10) (cur : List UInt8) : linesC cur true t = linesC cur false t := by
  cases t with
  | nil => simp [linesC]
  | cons c t' => simp only [List.head?_cons, ne_eq, Option.some.injEq] at h; simp only [linesC, if_neg h]
theorem linesG_nil (cur : List UInt8) : linesG cur [] = if cur = [] then [] else [cur] := by simp only [linesG, linesC]
theorem linesG_lf (cur t : List UInt8) : linesG cur (10 :: t) = cur :: linesG [] t := by simp [linesG, linesC]
theorem linesG_crlf (cur t : List UInt8) : linesG cur (13 :: 10 :: t) = cur :: linesG [] t := by simp [linesG, linesC]
theorem linesG_cr (cur t : List UInt8) (h : t.head? ≠ some 10) : linesG cur (13 :: t) = cur :: linesG [] t := by
  have := linesC_cr t h []
  simp [linesG, linesC, this]
theorem linesG_other (cur t : List UInt8) (b : UInt8) (h1 : b ≠ 10) (h2 : b ≠ 13) : linesG cur (b :: t) = linesG (cur ++ [b]) t := by
  simp [linesG, linesC, h1, h2]

/-- a head without line ends -/
def plain (l : List UInt8) : Prop := ∀ b ∈ l, b ≠ 10 ∧ b ≠ 13
theorem linesG_plain : ∀ (p cur t : List UInt8), plain p → linesG cur (p ++ t) = linesG (cur ++ p) t
  | [], cur, t, _ => by simp
  | b :: p, cur, t, h => by
    have hb := h b (by simp)
    rw [List.cons_append, linesG_other _ _ _ hb.1 hb.2, linesG_plain p _ t (fun x hx => h x (by simp [hx]))]
    simp

theorem lines_plain (p t : List UInt8) (h : plain p) : linesL (p ++ t) = linesG p t := by
  unfold linesL; rw [linesG_plain p [] t h]; simp
/-- what runes.Lines does in one round: no end is there -/
theorem lines_last (p : List UInt8) (h : plain p) (hn : p ≠ []) : linesL p = [p] := by
  have := lines_plain p [] h
  rw [List.append_nil] at this
  rw [this, linesG_nil, if_neg hn]
theorem lines_lf (p t : List UInt8) (h : plain p) : linesL (p ++ 10 :: t) = p :: linesL t := by rw [lines_plain p _ h, linesG_lf]; rfl
theorem lines_crlf (p t : List UInt8) (h : plain p) : linesL (p ++ 13 :: 10 :: t) = p :: linesL t := by rw [lines_plain p _ h, linesG_crlf]; rfl
theorem lines_cr (p t : List UInt8) (h : plain p) (hn : t.head? ≠ some 10) : linesL (p ++ 13 :: t) = p :: linesL t := by rw [lines_plain p _ h, linesG_cr _ _ hn]; rfl
theorem lines_nil : linesL [] = [] := rfl

/-- lengths: each line, and how many there are -/
theorem linesG_length : ∀ (n : Nat) (cur l : List UInt8), l.length ≤ n → (linesG cur l).length ≤ l.length + (if cur = [] then 0 else 1)
  | n, cur, [], _ => by rw [linesG_nil]; split <;> simp
  | 0, cur, b :: t, h => by simp at h
  | n + 1, cur, b :: t, h => by
    simp only [List.length_cons] at h ⊢
    by_cases h1 : b = 10
    · subst h1; rw [linesG_lf]
      have := linesG_length n [] t (by omega)
      simp only [List.length_cons, if_true] at this ⊢
      omega
    by_cases h2 : b = 13
    · subst h2
      by_cases h3 : t.head? = some 10
      · cases t with
        | nil => simp at h3
        | cons c t' =>
          simp only [List.head?_cons, Option.some.injEq] at h3; subst h3
          rw [linesG_crlf]
          have := linesG_length n [] t' (by simp at h; omega)
          simp only [List.length_cons, if_true] at this ⊢
          omega
      · rw [linesG_cr _ _ h3]
        have := linesG_length n [] t (by omega)
        simp only [List.length_cons, if_true] at this ⊢
        omega
    · rw [linesG_other _ _ _ h1 h2]
      have := linesG_length n (cur ++ [b]) t (by omega)
      have e : (if cur ++ [b] = [] then 0 else 1) = 1 := by simp
      rw [e] at this
      omega
theorem lines_length (l : List UInt8) : (linesL l).length ≤ l.length := by
  have := linesG_length l.length [] l (Nat.le_refl _)
  rw [if_pos rfl] at this
  exact this

/-! the document's answer: by places -/
/-- what stands behind place i, 'from' being where the line begins -/
def refFrom (l : List UInt8) (frm i : Nat) : List (List UInt8) := linesG ((l.take i).drop frm) (l.drop i)

theorem refFrom_start (l : List UInt8) : refFrom l 0 0 = linesL l := by simp [refFrom, linesL]
theorem refFrom_end (l : List UInt8) (frm i : Nat) (h : l.length ≤ i) : refFrom l frm i = if frm < l.length then [l.drop frm] else [] := by
  unfold refFrom
  rw [List.drop_eq_nil_of_le h, linesG_nil, List.take_of_length_le h]
  by_cases hf : frm < l.length
  · rw [if_pos hf, if_neg (by simp; omega)]
  · rw [if_neg hf, if_pos (by simp; omega)]
theorem drop_at (l : List UInt8) (i : Nat) (b : UInt8) (h : l[i]? = some b) : l.drop i = b :: l.drop (i + 1) := by
  have hi : i < l.length := by
    rcases Nat.lt_or_ge i l.length with h' | h'
    · exact h'
    · rw [List.getElem?_eq_none h'] at h; cases h
  rw [List.drop_eq_getElem_cons hi]
  have : l[i] = b := by rw [List.getElem?_eq_getElem hi] at h; exact Option.some.inj h
  rw [this]
theorem refFrom_other (l : List UInt8) (frm i : Nat) (b : UInt8) (hf : frm ≤ i) (h : l[i]? = some b) (h1 : b ≠ 10) (h2 : b ≠ 13) : refFrom l frm i = refFrom l frm (i + 1) := by
  have hi : i < l.length := by
    rcases Nat.lt_or_ge i l.length with h' | h'
    · exact h'
    · rw [List.getElem?_eq_none h'] at h; cases h
  unfold refFrom
  rw [drop_at l i b h, linesG_other _ _ _ h1 h2]
  congr 1
  rw [List.take_succ_eq_append_getElem hi, List.drop_append_of_le_length (by simp; omega)]
  have : l[i] = b := by rw [List.getElem?_eq_getElem hi] at h; exact Option.some.inj h
  rw [this]
theorem take_drop_self (l : List UInt8) (i : Nat) : (l.take i).drop i = [] := by simp
theorem refFrom_lf (l : List UInt8) (frm i : Nat) (h : l[i]? = some 10) : refFrom l frm i = (l.take i).drop frm :: refFrom l (i + 1) (i + 1) := by
  unfold refFrom
  rw [drop_at l i 10 h, linesG_lf, take_drop_self]
theorem refFrom_crlf (l : List UInt8) (frm i : Nat) (h : l[i]? = some 13) (h' : l[i + 1]? = some 10) : refFrom l frm i = (l.take i).drop frm :: refFrom l (i + 2) (i + 2) := by
  unfold refFrom
  rw [drop_at l i 13 h, drop_at l (i + 1) 10 h', linesG_crlf, take_drop_self]
theorem refFrom_cr (l : List UInt8) (frm i : Nat) (h : l[i]? = some 13) (h' : l[i + 1]? ≠ some 10) : refFrom l frm i = (l.take i).drop frm :: refFrom l (i + 1) (i + 1) := by
  unfold refFrom
  rw [drop_at l i 13 h, linesG_cr _ _ (by rw [List.head?_drop]; exact h'), take_drop_self]

/-! RunesJoin: texts with ends behind them -/
/-- pieces: (text, end); right: texts are plain; an end is one of three; a lone CR is not followed by a LF -/
def glue : List (List UInt8 × List UInt8) → List UInt8
  | [] => []
  | (t, e) :: r => t ++ e ++ glue r
def Right : List (List UInt8 × List UInt8) → Prop
  | [] => True
  | (t, e) :: r => plain t ∧ (e = [10] ∨ e = [13, 10] ∨ (e = [13] ∧ (glue r).head? ≠ some 10)) ∧ Right r
theorem lines_glue : ∀ (r : List (List UInt8 × List UInt8)), Right r → linesL (glue r) = r.map (·.1)
  | [], _ => rfl
  | (t, e) :: r, ⟨hp, he, hr⟩ => by
    have ih := lines_glue r hr
    rw [glue]
    rcases he with rfl | rfl | ⟨rfl, hn⟩
    · have := lines_lf t (glue r) hp
      simp only [List.append_assoc, List.cons_append, List.nil_append, this, ih, List.map_cons]
    · have := lines_crlf t (glue r) hp
      simp only [List.append_assoc, List.cons_append, List.nil_append, this, ih, List.map_cons]
    · have := lines_cr t (glue r) hp hn
      simp only [List.append_assoc, List.cons_append, List.nil_append, this, ih, List.map_cons]
end Ru
end

section
namespace Ru
open Go.Lib (encodeRune encodeRuneZ mapD mapGoD decodeL goFieldsP spansFromP spansOfP closeSpans join joinTail)

/-- A3, A4 on characters -/
def spaceN (r : Nat) : Bool := r == 9 || r == 10 || r == 12 || r == 13 || r == 32 || r == 160 || r == 5760 || r == 8239 || r == 8287 || r == 12288 || (decide (8192 ≤ r) && decide (r ≤ 8202))
def smallN (r : Nat) : Nat :=
  if (65 ≤ r ∧ r ≤ 90) ∨ (192 ≤ r ∧ r ≤ 222 ∧ r ≠ 215) ∨ (913 ≤ r ∧ r ≤ 937) ∨ (1040 ≤ r ∧ r ≤ 1071) then r + 32
  else if 1024 ≤ r ∧ r ≤ 1039 then r + 80 else r
def sharp (r : Nat) : List Nat := if r = 223 ∨ r = 7838 then [115, 115] else [r]
def smallR (r : Nat) : List Nat := sharp (smallN r)

/-- the document's: 'gap': a blank stands ahead; 'out': what there is -/
def foldGo : Bool → List Nat → List Nat → List Nat
  | _, out, [] => out
  | gap, out, r :: t => if spaceN r then foldGo true out t else foldGo false (out ++ (if gap ∧ out ≠ [] then [32] else []) ++ smallR r) t
def foldR (rs : List Nat) : List Nat := foldGo false [] rs
def foldL (l : List UInt8) : List UInt8 := (foldR (runes l)).flatMap enc

def wordsG : List Nat → List Nat → List (List Nat)
  | cur, [] => if cur = [] then [] else [cur]
  | cur, r :: t => if spaceN r then (if cur = [] then [] else [cur]) ++ wordsG [] t else wordsG (cur ++ [r]) t
/-- words with one blank between -/
def glueW : List (List Nat) → List Nat
  | [] => []
  | [w] => w
  | w :: v :: r => w ++ 32 :: glueW (v :: r)

theorem glueW_snoc : ∀ (ws : List (List Nat)) (w : List Nat), glueW (ws ++ [w]) = if ws = [] then w else glueW ws ++ 32 :: w
  | [], w => rfl
  | [v], w => rfl
  | u :: v :: r, w => by
    have ih := glueW_snoc (v :: r) w
    simp only [List.cons_append] at ih ⊢
    rw [glueW, ih]
    simp [glueW]
theorem smallR_ne (r : Nat) : smallR r ≠ [] := by unfold smallR sharp; split <;> simp
theorem flat_ne (w : List Nat) (h : w ≠ []) : w.flatMap smallR ≠ [] := by
  cases w with
  | nil => exact absurd rfl h
  | cons a t => rw [List.flatMap_cons]; simp [smallR_ne]
theorem smallR_blank : smallR 32 = [32] := by decide

/-- words that were closed (ws), one that is open (cur) -/
theorem foldGo_words : ∀ (rs : List Nat) (ws : List (List Nat)) (cur : List Nat) (gap : Bool), (∀ w ∈ ws, w ≠ []) → (cur ≠ [] → gap = false) → (cur = [] → ws ≠ [] → gap = true) →
    foldGo gap ((glueW (ws ++ (if cur = [] then [] else [cur]))).flatMap smallR) rs = (glueW (ws ++ wordsG cur rs)).flatMap smallR
  | [], ws, cur, gap, _, _, _ => by simp only [foldGo, wordsG]
  | r :: t, ws, cur, gap, hw, h1, h2 => by
    by_cases hs : spaceN r = true
    · simp only [foldGo, wordsG, hs, if_true]
      by_cases hc : cur = []
      · subst hc
        have := foldGo_words t ws [] true hw (fun h => absurd rfl h) (fun _ _ => rfl)
        simpa using this
      · simp only [if_neg hc]
        have := foldGo_words t (ws ++ [cur]) [] true (by
          intro w hm; rcases List.mem_append.1 hm with hm | hm
          · exact hw w hm
          · simp at hm; subst hm; exact hc) (fun h => absurd rfl h) (fun _ _ => rfl)
        simpa using this
    · have hs' : spaceN r = false := by simpa using hs
      simp only [foldGo, wordsG, hs', Bool.false_eq_true, if_false]
      have ih := foldGo_words t ws (cur ++ [r]) false hw (fun _ => rfl) (fun h => by simp at h)
      rw [← ih]
      congr 1
      by_cases hc : cur = []
      · subst hc
        simp only [if_true, List.append_nil, List.nil_append, List.cons_ne_self, if_false]
        rw [glueW_snoc]
        by_cases hws : ws = []
        · subst hws; simp [glueW]
        · have hg := h2 rfl hws
          have hne : (glueW ws).flatMap smallR ≠ [] := by
            apply flat_ne
            cases ws with
            | nil => exact absurd rfl hws
            | cons w r => 
              have := hw w (by simp)
              cases r with
              | nil => simpa [glueW] using this
              | cons v r => simp [glueW]
          rw [if_neg hws, if_pos ⟨hg, hne⟩]
          simp [smallR_blank]
      · have hg := h1 hc
        subst hg
        simp only [if_neg hc, Bool.false_eq_true, false_and, if_false, List.append_nil]
        rw [if_neg (by simp), glueW_snoc, glueW_snoc]
        by_cases hws : ws = []
        · simp [hws]
        · simp [hws]
theorem foldR_words (rs : List Nat) : foldR rs = (glueW (wordsG [] rs)).flatMap smallR := by
  have := foldGo_words rs [] [] false (fun w h => by cases h) (fun _ => rfl) (fun _ h => absurd rfl h)
  simpa [foldR, glueW] using this

/-! idempotence, blanks at the ends -/
theorem words_cons_blank (cur : List Nat) (r : Nat) (t : List Nat) (h : spaceN r = true) : wordsG cur (r :: t) = (if cur = [] then [] else [cur]) ++ wordsG [] t := by
  simp [wordsG, h]
theorem words_append_blank : ∀ (rs cur : List Nat) (b : List Nat), (∀ r ∈ b, spaceN r = true) → wordsG cur (rs ++ b) = wordsG cur rs
  | [], cur, [], _ => rfl
  | [], cur, r :: b, h => by
    rw [List.nil_append, words_cons_blank _ _ _ (h r (by simp))]
    have := words_append_blank [] [] b (fun x hx => h x (by simp [hx]))
    rw [List.nil_append] at this
    rw [this]; simp [wordsG]
  | r :: rs, cur, b, h => by
    simp only [List.cons_append, wordsG]
    split
    · rw [words_append_blank rs [] b h]
    · rw [words_append_blank rs _ b h]
theorem words_ahead_blank : ∀ (b rs : List Nat), (∀ r ∈ b, spaceN r = true) → wordsG [] (b ++ rs) = wordsG [] rs
  | [], _, _ => rfl
  | r :: b, rs, h => by
    rw [List.cons_append, words_cons_blank _ _ _ (h r (by simp)), if_pos rfl, List.nil_append]
    exact words_ahead_blank b rs (fun x hx => h x (by simp [hx]))

/-- words without blanks, none empty, put together and parted again -/
theorem words_open (w : List Nat) (hw : ∀ r ∈ w, spaceN r = false) : ∀ (cur t : List Nat), wordsG cur (w ++ t) = wordsG (cur ++ w) t := by
  induction w with
  | nil => simp
  | cons r w ih =>
    intro cur t
    rw [List.cons_append, wordsG, hw r (by simp)]
    simp only [Bool.false_eq_true, if_false]
    rw [ih (fun x hx => hw x (by simp [hx]))]
    simp
theorem words_glue : ∀ (ws : List (List Nat)), (∀ w ∈ ws, w ≠ [] ∧ ∀ r ∈ w, spaceN r = false) → wordsG [] (glueW ws) = ws
  | [], _ => rfl
  | [w], h => by
    have hw := h w (by simp)
    have := words_open w hw.2 [] []
    simp only [List.append_nil, List.nil_append] at this
    rw [glueW, this]; simp [wordsG, hw.1]
  | w :: v :: r, h => by
    have hw := h w (by simp)
    rw [glueW, words_open w hw.2, List.nil_append, words_cons_blank _ _ _ (by decide), if_neg hw.1, words_glue (v :: r) (fun x hx => h x (by simp [hx]))]
    rfl
theorem words_mem : ∀ (rs cur : List Nat), (∀ r ∈ cur, spaceN r = false) → ∀ w ∈ wordsG cur rs, w ≠ [] ∧ ∀ r ∈ w, spaceN r = false
  | [], cur, hc => by
    intro w hw
    simp only [wordsG] at hw
    split at hw
    · simp at hw
    · rename_i h; simp at hw; subst hw; exact ⟨h, hc⟩
  | r :: t, cur, hc => by
    intro w hw
    simp only [wordsG] at hw
    split at hw
    · rcases List.mem_append.1 hw with hw | hw
      · split at hw
        · simp at hw
        · rename_i h; simp at hw; subst hw; exact ⟨h, hc⟩
      · exact words_mem t [] (fun x hx => by cases hx) w hw
    · rename_i h
      exact words_mem t (cur ++ [r]) (fun x hx => by
        rcases List.mem_append.1 hx with hx | hx
        · exact hc x hx
        · simp at hx; subst hx; simpa using h) w hw
theorem glue_map (f : Nat → List Nat) (hf : f 32 = [32]) : ∀ ws : List (List Nat), (glueW ws).flatMap f = glueW (ws.map fun w => w.flatMap f)
  | [] => rfl
  | [w] => rfl
  | w :: v :: r => by
    have ih := glue_map f hf (v :: r)
    simp only [glueW, List.flatMap_append, List.flatMap_cons, hf, ih, List.map_cons]
    rfl
theorem small_notspace (r : Nat) (h : spaceN r = false) : ∀ x ∈ smallR r, spaceN x = false := by
  intro x hx
  unfold smallR sharp at hx
  split at hx
  · simp at hx; subst hx; decide
  · simp at hx; subst hx
    unfold smallN
    split
    · rename_i _ h1
      simp only [spaceN, Bool.or_eq_false_iff, beq_eq_false_iff_ne, Bool.and_eq_false_iff, decide_eq_false_iff_not] at h ⊢
      omega
    · split
      · simp only [spaceN, Bool.or_eq_false_iff, beq_eq_false_iff_ne, Bool.and_eq_false_iff, decide_eq_false_iff_not] at h ⊢
        omega
      · exact h
theorem small_small (r : Nat) : (smallR r).flatMap smallR = smallR r := by
  unfold smallR
  have h1 : smallN (smallN r) = smallN r := by
    unfold smallN
    split
    · rename_i h; rw [if_neg (by omega), if_neg (by omega)]
    · rename_i h1
      split
      · rw [if_neg (by omega), if_neg (by omega)]
      · rfl
  generalize smallN r = x at h1
  unfold sharp
  by_cases hx : x = 223 ∨ x = 7838
  · rw [if_pos hx]; decide
  · rw [if_neg hx]; simp only [List.flatMap_cons, List.flatMap_nil, List.append_nil, h1, if_neg hx]
theorem fold_fold (rs : List Nat) : foldR (foldR rs) = foldR rs := by
  rw [foldR_words rs, glue_map smallR smallR_blank, foldR_words, words_glue, glue_map smallR smallR_blank, List.map_map]
  · congr 1
    apply List.map_congr_left
    intro w _
    simp only [Function.comp, List.flatMap_assoc]
    congr 1
    funext r
    exact small_small r
  · intro w hw
    obtain ⟨v, hv, rfl⟩ := List.mem_map.1 hw
    have := words_mem rs [] (fun x hx => by cases hx) v hv
    refine ⟨flat_ne v this.1, ?_⟩
    intro r hr
    obtain ⟨x, hx, hr⟩ := List.mem_flatMap.1 hr
    exact small_notspace x (this.2 x hx) r hr
theorem fold_ok (rs : List Nat) (h : ∀ r ∈ rs, ok r) : ∀ r ∈ foldR rs, ok r := by
  have key : ∀ (rs : List Nat) (g : Bool) (out : List Nat), (∀ r ∈ rs, ok r) → (∀ r ∈ out, ok r) → ∀ r ∈ foldGo g out rs, ok r := by
    intro rs
    induction rs with
    | nil => intro g out _ ho; exact ho
    | cons x t ih =>
      intro g out hr ho
      simp only [foldGo]
      split
      · exact ih _ _ (fun y hy => hr y (by simp [hy])) ho
      · refine ih _ _ (fun y hy => hr y (by simp [hy])) ?_
        intro y hy
        rcases List.mem_append.1 hy with hy | hy
        · rcases List.mem_append.1 hy with hy | hy
          · exact ho y hy
          · split at hy
            · simp at hy; subst hy; unfold ok; omega
            · simp at hy
        · have hx := hr x (by simp)
          unfold smallR sharp at hy
          split at hy
          · simp at hy; subst hy; unfold ok; omega
          · simp at hy; subst hy
            unfold smallN ok at *
            repeat' split
            all_goals omega
  exact key rs false [] h (fun r hr => by cases hr)
theorem foldL_foldL (l : List UInt8) : foldL (foldL l) = foldL l := by
  have := runes_flat (foldR (runes l)) (fold_ok _ (runes_ok l)) []
  rw [List.append_nil, runes_nil, List.append_nil] at this
  unfold foldL
  rw [this, fold_fold]

/-! an ASCII byte behind some bytes parts them -/
theorem dec_ascii (u t : List UInt8) (c : UInt8) (hc : c.toNat < 128) (hu : u ≠ []) : dec (u ++ c :: t) = dec u := by
  have hl : 1 ≤ u.length := List.length_pos_iff.2 hu
  have hp := dec_pos u hu
  have hg : ∀ i, i < u.length → (u ++ c :: t).getD i 0 = u.getD i 0 := by
    intro i hi
    simp only [List.getD_eq_getElem?_getD, List.getElem?_append_left hi]
  by_cases hw : 2 ≤ (dec u).2
  · exact dec_keeps u _ (hg 0 (by omega)).symm hw (fun i h1 h2 => ⟨by simp; omega, hg i (by omega)⟩)
  by_cases hw' : 2 ≤ (dec (u ++ c :: t)).2
  · by_cases hk : (dec (u ++ c :: t)).2 ≤ u.length
    · exact (dec_keeps _ u (hg 0 (by omega)) hw' (fun i h1 h2 => ⟨by omega, (hg i (by omega)).symm⟩)).symm
    · exfalso
      have hcc : (u ++ c :: t).getD u.length 0 = c := by simp [List.getD_eq_getElem?_getD]
      revert hw' hk
      unfold dec
      by_cases k0 : ((u ++ c :: t).getD 0 0).toNat < 128
      · rw [dN_ascii _ _ _ _ _ k0]; simp
      by_cases k2 : ((u ++ c :: t).getD 0 0).toNat / 32 = 6
      · rw [dN_2 _ _ _ _ _ k2]
        split
        · rename_i p
          intro _ hk
          have : u.length = 1 := by simp only at hk; omega
          rw [this] at hcc; rw [hcc] at p; omega
        · simp
      by_cases k3 : ((u ++ c :: t).getD 0 0).toNat / 16 = 14
      · rw [dN_3 _ _ _ _ _ k3]
        split
        · rename_i p
          intro _ hk
          have : u.length = 1 ∨ u.length = 2 := by simp only at hk; omega
          rcases this with h | h <;> (rw [h] at hcc; rw [hcc] at p; omega)
        · simp
      by_cases k4 : ((u ++ c :: t).getD 0 0).toNat / 8 = 30
      · rw [dN_4 _ _ _ _ _ k4]
        split
        · rename_i p
          intro _ hk
          have : u.length = 1 ∨ u.length = 2 ∨ u.length = 3 := by simp only at hk; omega
          rcases this with h | h | h <;> (rw [h] at hcc; rw [hcc] at p; omega)
        · simp
      · rw [dN_bad _ _ _ _ _ ⟨by omega, k2, k3, k4⟩]; simp
  · rw [dec_one' _ (by omega), dec_one' u (by omega), hg 0 (by omega)]
theorem dec_one (c : UInt8) (t : List UInt8) (hc : c.toNat < 128) : dec (c :: t) = (c.toNat, 1) := by
  simp only [dec, List.getD_cons_zero]
  unfold Go.Lib.decodeN
  rw [if_pos hc]
theorem runes_ascii (u t : List UInt8) (c : UInt8) (hc : c.toNat < 128) : runes (u ++ c :: t) = runes u ++ c.toNat :: runes t := by
  generalize hn : u.length = n
  induction n using Nat.strongRecOn generalizing u with
  | _ n ih =>
    by_cases h : u = []
    · subst h
      rw [List.nil_append, runes_cons _ (by simp), dec_one c t hc, runes_nil]; simp
    · have hp := dec_pos u h
      rw [runes_cons (u ++ c :: t) (by simp), dec_ascii u t c hc h, runes_cons u h, List.drop_append_of_le_length hp.2, ih (u.drop (dec u).2).length (by rw [List.length_drop]; omega) _ rfl]
      rfl
theorem fold_ends (l : List UInt8) : foldL (32 :: 9 :: (l ++ [10, 32])) = foldL l := by
  have h1 : runes (32 :: 9 :: (l ++ [10, 32])) = 32 :: 9 :: runes (l ++ [10, 32]) := by
    have a := runes_ascii [] (9 :: (l ++ [10, 32])) 32 (by decide)
    have b := runes_ascii [] (l ++ [10, 32]) 9 (by decide)
    simp only [List.nil_append, runes_nil] at a b
    rw [a, b]; rfl
  have h2 : runes (l ++ [10, 32]) = runes l ++ [10, 32] := by
    have a := runes_ascii l [32] 10 (by decide)
    have b := runes_ascii [] [] 32 (by decide)
    simp only [List.nil_append, runes_nil] at b
    rw [a, b]; rfl
  unfold foldL
  rw [h1, h2, foldR_words, foldR_words]
  congr 3
  rw [show (32 :: 9 :: (runes l ++ [10, 32]) : List Nat) = [32, 9] ++ (runes l ++ [10, 32]) from rfl, words_ahead_blank _ _ (by decide), words_append_blank _ _ _ (by decide)]
end Ru
end

section
namespace Ru
open Go.Lib (encodeRune encodeRuneZ mapD mapGoD decodeL goFieldsP spansFromP spansOfP closeSpans join joinTail)

theorem getD_drop (l : List UInt8) (i j : Nat) : (l.drop i).getD j 0 = l.getD (i + j) 0 := by
  simp [List.getD_eq_getElem?_getD, List.getElem?_drop]
theorem size_list (s : ByteArray) : s.data.toList.length = s.size := by simp
/-- the model's own decoder -/
theorem decode_dec (s : ByteArray) (i : Nat) : Go.Utf8.decode s i = dec (s.data.toList.drop i) := by
  rw [Go.Lib.decode_at]
  unfold dec
  simp only [getD_drop, Go.Lib.getD_get!', Nat.add_zero, List.length_drop, size_list]
theorem decodeL_dec (l : List UInt8) : decodeL l = dec l := by
  unfold decodeL; rw [decode_dec]; simp

theorem enc_encodeRune (r : Nat) (h : ok r) : encodeRune (r : Int) = enc r := by
  unfold ok at h
  unfold encodeRune enc
  by_cases h1 : r < 128
  · rw [if_pos h1, Go.Lib.encodeRuneZ_one (by omega) (by omega)]; simp
  rw [if_neg h1]
  by_cases h2 : r < 2048
  · rw [if_pos h2, Go.Lib.encodeRuneZ_two (by omega) (by omega)]
    simp only [List.map_cons, List.map_nil, List.cons.injEq, and_true]
    refine ⟨congrArg Nat.toUInt8 (by omega), congrArg Nat.toUInt8 (by omega)⟩
  rw [if_neg h2]
  by_cases h3 : r < 65536
  · rw [if_pos h3, Go.Lib.encodeRuneZ_three (by omega)]
    simp only [List.map_cons, List.map_nil, List.cons.injEq, and_true]
    refine ⟨congrArg Nat.toUInt8 (by omega), congrArg Nat.toUInt8 (by omega), congrArg Nat.toUInt8 (by omega)⟩
  · rw [if_neg h3, Go.Lib.encodeRuneZ_four (by omega) (by omega)]
    simp only [List.map_cons, List.map_nil, List.cons.injEq, and_true]
    refine ⟨congrArg Nat.toUInt8 (by omega), congrArg Nat.toUInt8 (by omega), congrArg Nat.toUInt8 (by omega), congrArg Nat.toUInt8 (by omega)⟩

/-- small on numbers as the program has them -/
def smallI (x : Int) : Int := if 0 ≤ x then (smallN x.toNat : Int) else x
theorem smallN_ok {r : Nat} (h : ok r) : ok (smallN r) := by
  unfold smallN ok at *
  repeat' split
  all_goals omega
theorem mapD_small (l : List UInt8) : mapD smallI l = ((runes l).map smallN).flatMap enc := by
  have key : ∀ (n : Nat) (l : List UInt8), l.length ≤ n → mapGoD smallI n l = ((runes l).map smallN).flatMap enc := by
    intro n
    induction n with
    | zero =>
      intro l hl
      have : l = [] := List.length_eq_zero_iff.1 (by omega)
      subst this; rfl
    | succ n ih =>
      intro l hl
      unfold mapGoD
      by_cases h : l = []
      · subst h; simp [runes_nil]
      · have hp := dec_pos l h
        rw [if_neg h, runes_cons l h, decodeL_dec, ih _ (by rw [List.length_drop]; omega)]
        have e : smallI ((dec l).1 : Int) = (smallN (dec l).1 : Int) := by simp [smallI]
        rw [e, if_pos (by omega), enc_encodeRune _ (smallN_ok (dec_ok l))]
        simp
  exact key l.length l (Nat.le_refl _)

/-! FieldsFunc's pieces -/
/-- places that are come to, character by character -/
inductive Bnd : List UInt8 → Nat → Prop
  | zero (l : List UInt8) : Bnd l 0
  | step (l : List UInt8) (k : Nat) (h : l ≠ []) (hb : Bnd (l.drop (dec l).2) k) : Bnd l ((dec l).2 + k)
theorem Bnd.le : ∀ {l : List UInt8} {k : Nat}, Bnd l k → k ≤ l.length
  | _, _, .zero _ => Nat.zero_le _
  | _, _, .step l k h hb => by
    have := hb.le; have hp := dec_pos l h
    rw [List.length_drop] at this; omega
theorem Bnd.parts : ∀ {l : List UInt8} {k : Nat}, Bnd l k → runes l = runes (l.take k) ++ runes (l.drop k)
  | _, _, .zero l => by simp [runes_nil]
  | _, _, .step l k h hb => by
    have ih := hb.parts
    have hp := dec_pos l h
    have hne : l.take ((dec l).2 + k) ≠ [] := by
      intro h0
      have := congrArg List.length h0
      have hl : 1 ≤ l.length := List.length_pos_iff.2 h
      rw [List.length_take, List.length_nil] at this; omega
    rw [runes_cons l h, runes_cons _ hne, dec_take l _ (by omega) h, ih]
    rw [List.drop_take, List.drop_drop]
    simp
theorem Bnd.more {l : List UInt8} {k : Nat} (hb : Bnd l k) (h : l.drop k ≠ []) : Bnd l (k + (dec (l.drop k)).2) := by
  induction hb with
  | zero l =>
    have := Bnd.step l 0 (by simpa using h) (.zero _)
    simpa using this
  | step l k hn hb ih =>
    rw [← List.drop_drop] at h ⊢
    have := Bnd.step l _ hn (ih h)
    rw [Nat.add_assoc]; exact this

def pc (l : List UInt8) (a b : Nat) : List UInt8 := (l.drop a).take (b - a)
theorem extract_pc (s : ByteArray) (a b : Nat) : (s.extract a b).data.toList = pc s.data.toList a b := by
  unfold pc
  simp [ByteArray.data_extract, Array.toList_extract]

theorem spans_words (s : ByteArray) : ∀ (f pos : Nat) (st : Option Nat) (acc : List (Nat × Nat)), s.size ≤ pos + f → pos ≤ s.size →
    (∀ a, st = some a → a < pos ∧ Bnd (s.data.toList.drop a) (pos - a)) →
    ((closeSpans s (spansFromP spaceN s f pos st acc)).map fun x => runes (pc s.data.toList x.1 x.2)) =
      (acc.map fun x => runes (pc s.data.toList x.1 x.2)) ++ wordsG (match st with | some a => runes (pc s.data.toList a pos) | none => []) (runes (s.data.toList.drop pos)) := by
  intro f
  induction f with
  | zero =>
    intro pos st acc h1 h2 hst
    have hd : s.data.toList.drop pos = [] := List.drop_eq_nil_of_le (by rw [size_list]; omega)
    simp only [spansFromP, hd, runes_nil, wordsG]
    cases st with
    | none => simp [closeSpans]
    | some a =>
      have ha := hst a rfl
      have hne : runes (pc s.data.toList a pos) ≠ [] := by
        rw [runes_cons]
        · simp
        · intro h0
          have := congrArg List.length h0
          unfold pc at this
          rw [List.length_take, List.length_drop, size_list] at this; simp at this; omega
      rw [if_neg hne]
      have : pos = s.size := by omega
      subst this
      simp [closeSpans]
  | succ f ih =>
    intro pos st acc h1 h2 hst
    by_cases hp : pos < s.size
    · have hdl : s.data.toList.drop pos ≠ [] := by
        intro h0
        have := congrArg List.length h0
        rw [List.length_drop, size_list] at this; simp at this; omega
      have hw := dec_pos _ hdl
      rw [List.length_drop, size_list] at hw
      simp only [spansFromP, hp, if_true, decode_dec]
      rw [runes_cons _ hdl, List.drop_drop]
      generalize hr : (dec (s.data.toList.drop pos)).1 = r
      generalize hwd : (dec (s.data.toList.drop pos)).2 = w at hw ⊢
      by_cases hs : spaceN r = true
      · simp only [hs, if_true]
        cases st with
        | none =>
          rw [ih (pos + w) none acc (by omega) (by omega) (by intro a h; cases h)]
          simp [wordsG, hs]
        | some a =>
          have ha := hst a rfl
          simp only
          rw [ih (pos + w) none _ (by omega) (by omega) (by intro a h; cases h)]
          have hne : runes (pc s.data.toList a pos) ≠ [] := by
            rw [runes_cons]
            · simp
            · intro h0
              have := congrArg List.length h0
              unfold pc at this
              rw [List.length_take, List.length_drop, size_list] at this; simp at this; omega
          simp [wordsG, hs, hne]
      · have hs' : spaceN r = false := by simpa using hs
        simp only [hs', Bool.false_eq_true, if_false]
        cases st with
        | none =>
          have hb := Bnd.step (s.data.toList.drop pos) 0 hdl (.zero _)
          rw [Nat.add_zero, hwd] at hb
          simp only
          rw [ih (pos + w) (some pos) acc (by omega) (by omega) (by intro a h; cases h; exact ⟨by omega, by rw [show pos + w - pos = w by omega]; exact hb⟩)]
          have e1 : runes (pc s.data.toList pos (pos + w)) = [r] := by
            unfold pc
            rw [show pos + w - pos = w by omega]
            have hne : (s.data.toList.drop pos).take w ≠ [] := by
              intro h0
              have := congrArg List.length h0
              rw [List.length_take, List.length_drop, size_list] at this; simp at this; omega
            rw [runes_cons _ hne, dec_take _ w (by omega) hdl, hr, hwd, List.drop_take]
            simp [runes_nil]
          simp [wordsG, hs', e1]
        | some a =>
          have ha := hst a rfl
          have hb := ha.2.more (by rw [List.drop_drop, show a + (pos - a) = pos by omega]; exact hdl)
          rw [List.drop_drop, show a + (pos - a) = pos by omega, hwd] at hb
          simp only
          rw [ih (pos + w) (some a) acc (by omega) (by omega) (by intro b h; cases h; exact ⟨by omega, by rw [show pos + w - a = pos - a + w by omega]; exact hb⟩)]
          have p1 := ha.2.parts
          have p2 := hb.parts
          rw [List.drop_drop, show a + (pos - a) = pos by omega, runes_cons _ hdl, hr, hwd, List.drop_drop] at p1
          rw [List.drop_drop, show a + (pos - a + w) = pos + w by omega] at p2
          have e1 : runes (pc s.data.toList a (pos + w)) = runes (pc s.data.toList a pos) ++ [r] := by
            unfold pc
            rw [show pos + w - a = pos - a + w by omega]
            have := p2.symm.trans p1
            have e2 : runes (List.take (pos - a) (List.drop a s.data.toList)) ++ r :: runes (List.drop (pos + w) s.data.toList) = (runes (List.take (pos - a) (List.drop a s.data.toList)) ++ [r]) ++ runes (List.drop (pos + w) s.data.toList) := by simp
            rw [e2] at this
            exact List.append_cancel_right this
          simp [wordsG, hs', e1]
    · have hd : s.data.toList.drop pos = [] := List.drop_eq_nil_of_le (by rw [size_list]; omega)
      rw [Go.Lib.spansFromP_end _ _ _ _ _ _ hp]
      have := ih pos st acc (by omega) h2 hst
      rw [Go.Lib.spansFromP_end _ _ _ _ _ _ hp] at this
      exact this

theorem fields_words (s : ByteArray) : (goFieldsP spaceN s).map (fun x => runes x.data.toList) = wordsG [] (runes s.data.toList) := by
  unfold goFieldsP spansOfP
  rw [List.map_map]
  have := spans_words s s.size 0 none [] (by omega) (by omega) (by intro a h; cases h)
  simp only [List.map_nil, List.nil_append, List.drop_zero] at this
  rw [← this]
  apply List.map_congr_left
  intro x _
  simp only [Function.comp, extract_pc]

theorem runes_join : ∀ ws : List (List UInt8), runes (join ws [32]) = glueW (ws.map runes)
  | [] => rfl
  | [w] => by rw [Go.Lib.join_one]; rfl
  | w :: v :: r => by
    have ih := runes_join (v :: r)
    rw [Go.Lib.join_cons] at ih ⊢
    have e : joinTail [32] (v :: r) = 32 :: (v ++ joinTail [32] r) := by simp [joinTail]
    rw [e, runes_ascii _ _ 32 (by decide), ih]
    rfl

/-- FieldsFunc, Join, Map -/
theorem pipe (s : ByteArray) : mapD smallI (join ((goFieldsP spaceN s).map (·.data.toList)) [32]) = ((glueW (wordsG [] (runes s.data.toList))).map smallN).flatMap enc := by
  rw [mapD_small, runes_join, List.map_map]
  have := fields_words s
  rw [show (runes ∘ fun x : ByteArray => x.data.toList) = (fun x : ByteArray => runes x.data.toList) from rfl, this]

/-! the replacer -/
def replB : Nat → List UInt8 → List UInt8
  | 0, _ => []
  | n + 1, l => match l with
    | [] => []
    | b :: t => if b = 195 ∧ t.head? = some 159 then 115 :: 115 :: replB n t.tail
      else if b = 225 ∧ t.head? = some 186 ∧ t.tail.head? = some 158 then 115 :: 115 :: replB n t.tail.tail
      else b :: replB n t
def replL (l : List UInt8) : List UInt8 := replB l.length l
theorem replB_more : ∀ (n m : Nat) (l : List UInt8), l.length ≤ n → l.length ≤ m → replB n l = replB m l
  | 0, 0, _, _, _ => rfl
  | 0, m + 1, l, h, _ => by
    have : l = [] := List.length_eq_zero_iff.1 (by omega)
    subst this; rfl
  | n + 1, 0, l, _, h => by
    have : l = [] := List.length_eq_zero_iff.1 (by omega)
    subst this; rfl
  | n + 1, m + 1, [], _, _ => rfl
  | n + 1, m + 1, b :: t, hn, hm => by
    simp only [List.length_cons] at hn hm
    have h1 : t.tail.length ≤ t.length := by simp
    have h2 : t.tail.tail.length ≤ t.length := by simp; omega
    simp only [replB]
    rw [replB_more n m t (by omega) (by omega), replB_more n m t.tail (by omega) (by omega), replB_more n m t.tail.tail (by omega) (by omega)]
theorem replL_nil : replL [] = [] := rfl
theorem replL_cons (b : UInt8) (t : List UInt8) : replL (b :: t) = if b = 195 ∧ t.head? = some 159 then 115 :: 115 :: replL t.tail
      else if b = 225 ∧ t.head? = some 186 ∧ t.tail.head? = some 158 then 115 :: 115 :: replL t.tail.tail
      else b :: replL t := by
  have h1 : t.tail.length ≤ t.length := by simp
  have h2 : t.tail.tail.length ≤ t.length := by simp; omega
  unfold replL
  simp only [List.length_cons, replB]
  rw [replB_more t.length t.tail.length t.tail h1 (Nat.le_refl _), replB_more t.length t.tail.tail.length t.tail.tail h2 (Nat.le_refl _)]
theorem replL_skip (b : UInt8) (t : List UInt8) (h1 : b ≠ 195) (h2 : b ≠ 225) : replL (b :: t) = b :: replL t := by
  rw [replL_cons, if_neg (fun x => h1 x.1), if_neg (fun x => h2 x.1)]
theorem u8ne (n : Nat) (c : UInt8) (h : n < 256) (hc : n ≠ c.toNat) : n.toUInt8 ≠ c := fun e => hc (by rw [← e, u8 n h])
theorem u8eq (n : Nat) (c : UInt8) (h : n < 256) (hc : n.toUInt8 = c) : n = c.toNat := by rw [← hc, u8 n h]
theorem repl_enc (r : Nat) (h : ok r) (t : List UInt8) : replL (enc r ++ t) = (sharp r).flatMap enc ++ replL t := by
  unfold ok at h
  by_cases e1 : r = 223
  · subst e1
    have : enc 223 = [195, 159] := by decide
    rw [this]
    simp only [List.cons_append, List.nil_append, replL_cons 195, List.head?_cons, List.tail_cons, and_self, if_true]
    rfl
  by_cases e2 : r = 7838
  · subst e2
    have : enc 7838 = [225, 186, 158] := by decide
    rw [this]
    simp only [List.cons_append, List.nil_append, replL_cons 225, List.head?_cons, List.tail_cons, and_self, if_true]
    rw [if_neg (by decide)]
    rfl
  have hs : sharp r = [r] := by unfold sharp; rw [if_neg (by omega)]
  rw [hs, List.flatMap_cons, List.flatMap_nil, List.append_nil]
  unfold enc
  by_cases h1 : r < 128
  · rw [if_pos h1]
    exact replL_skip _ _ (u8ne _ _ (by omega) (by have : (195 : UInt8).toNat = 195 := rfl; omega)) (u8ne _ _ (by omega) (by have : (225 : UInt8).toNat = 225 := rfl; omega))
  rw [if_neg h1]
  have c195 : (195 : UInt8).toNat = 195 := rfl
  have c225 : (225 : UInt8).toNat = 225 := rfl
  have c159 : (159 : UInt8).toNat = 159 := rfl
  have c186 : (186 : UInt8).toNat = 186 := rfl
  have c158 : (158 : UInt8).toNat = 158 := rfl
  have tailb : ∀ (x : Nat), ∀ t : List UInt8, replL ((128 + x % 64).toUInt8 :: t) = (128 + x % 64).toUInt8 :: replL t :=
    fun x t => replL_skip _ _ (u8ne _ _ (by omega) (by omega)) (u8ne _ _ (by omega) (by omega))
  by_cases h2 : r < 2048
  · rw [if_pos h2]
    simp only [List.cons_append, List.nil_append]
    rw [replL_cons, if_neg, if_neg, tailb]
    · rintro ⟨a, _⟩
      have := u8eq _ _ (by omega) a; omega
    · rintro ⟨a, b⟩
      have := u8eq _ _ (by omega) a
      simp only [List.head?_cons, Option.some.injEq] at b
      have := u8eq _ _ (by omega) b; omega
  rw [if_neg h2]
  by_cases h3 : r < 65536
  · rw [if_pos h3]
    simp only [List.cons_append, List.nil_append]
    rw [replL_cons, if_neg, if_neg, tailb, tailb]
    · rintro ⟨a, b, c⟩
      have := u8eq _ _ (by omega) a
      simp only [List.head?_cons, Option.some.injEq, List.tail_cons] at b c
      have := u8eq _ _ (by omega) b
      have := u8eq _ _ (by omega) c; omega
    · rintro ⟨a, _⟩
      have := u8eq _ _ (by omega) a; omega
  · rw [if_neg h3]
    simp only [List.cons_append, List.nil_append]
    rw [replL_cons, if_neg, if_neg, tailb, tailb, tailb]
    · rintro ⟨a, _⟩
      have := u8eq _ _ (by omega) a; omega
    · rintro ⟨a, _⟩
      have := u8eq _ _ (by omega) a; omega
theorem repl_flat : ∀ (rs : List Nat), (∀ r ∈ rs, ok r) → replL (rs.flatMap enc) = (rs.flatMap sharp).flatMap enc
  | [], _ => rfl
  | r :: rs, h => by
    rw [List.flatMap_cons, repl_enc r (h r (by simp)), repl_flat rs (fun x hx => h x (by simp [hx]))]
    simp
/-- the program's way is the document's -/
theorem fold_pipe (s : ByteArray) : replL (mapD smallI (join ((goFieldsP spaceN s).map (·.data.toList)) [32])) = foldL s.data.toList := by
  rw [pipe, repl_flat]
  · unfold foldL
    rw [foldR_words]
    congr 1
    rw [List.flatMap_map]
    rfl
  · intro r hr
    obtain ⟨x, hx, rfl⟩ := List.mem_map.1 hr
    apply smallN_ok
    have key : ∀ ws : List (List Nat), (∀ w ∈ ws, ∀ r ∈ w, ok r) → ∀ r ∈ glueW ws, ok r := by
      intro ws
      induction ws with
      | nil => intro _ r hr; simp [glueW] at hr
      | cons w r ih =>
        intro hw y hy
        cases r with
        | nil => exact hw w (by simp) y (by simpa [glueW] using hy)
        | cons v r =>
          simp only [glueW, List.mem_append, List.mem_cons] at hy
          rcases hy with hy | rfl | hy
          · exact hw w (by simp) y hy
          · unfold ok; omega
          · exact ih (fun u hu => hw u (by simp at hu ⊢; right; exact hu)) y hy
    refine key _ (fun w hw r hr => ?_) x hx
    have key2 : ∀ (rs cur : List Nat), (∀ r ∈ rs, ok r) → (∀ r ∈ cur, ok r) → ∀ w ∈ wordsG cur rs, ∀ r ∈ w, ok r := by
      intro rs
      induction rs with
      | nil =>
        intro cur _ hc w hw
        simp only [wordsG] at hw
        split at hw
        · simp at hw
        · simp at hw; subst hw; exact hc
      | cons r t ih =>
        intro cur hr hc w hw
        simp only [wordsG] at hw
        split at hw
        · rcases List.mem_append.1 hw with hw | hw
          · split at hw
            · simp at hw
            · simp at hw; subst hw; exact hc
          · exact ih [] (fun y hy => hr y (by simp [hy])) (fun y hy => by cases hy) w hw
        · exact ih (cur ++ [r]) (fun y hy => hr y (by simp [hy])) (fun y hy => by
            rcases List.mem_append.1 hy with hy | hy
            · exact hc y hy
            · simp at hy; subst hy; exact hr y (by simp)) w hw
    exact key2 (runes s.data.toList) [] (runes_ok _) (fun y hy => by cases hy) w hw r hr
end Ru
namespace Ru
/-- A3 -/
def markN (r : Nat) : Bool := (decide (33 ≤ r) && decide (r ≤ 47)) || (decide (58 ≤ r) && decide (r ≤ 64)) || (decide (91 ≤ r) && decide (r ≤ 96)) || (decide (123 ≤ r) && decide (r ≤ 126))
def inN (r lo hi : Nat) : Bool := decide (lo ≤ r) && decide (r ≤ hi)
def punctN (r : Nat) : Bool := markN r || inN r 0xA1 0xA9 || inN r 0xAB 0xB1 || r == 0xB4 || inN r 0xB6 0xB8 || r == 0xBB || r == 0xBF || r == 0xD7 || r == 0xF7 || inN r 0x2010 0x2027 || inN r 0x2030 0x205E || inN r 0x20A0 0x20C0 || inN r 0x2190 0x21FF || inN r 0x3001 0x3003 || inN r 0x3008 0x3011
def punctI (x : Int) : Bool := decide (0 ≤ x) && punctN x.toNat
end Ru
namespace Ru
theorem idx_cases : ∀ l : List UInt8, (Go.Lib.indexAny l [13, 10] = -1 ∧ plain l) ∨ ∃ p c t, l = p ++ c :: t ∧ plain p ∧ (c = 13 ∨ c = 10) ∧ Go.Lib.indexAny l [13, 10] = (p.length : Int)
  | [] => .inl ⟨rfl, fun b hb => by cases hb⟩
  | b :: l => by
    by_cases hb : b = 13 ∨ b = 10
    · refine .inr ⟨[], b, l, rfl, fun x hx => (by cases hx), hb, ?_⟩
      unfold Go.Lib.indexAny
      rw [if_pos (by rcases hb with rfl | rfl <;> rfl)]; rfl
    · have hc : ([13, 10] : List UInt8).contains b = false := by
        have h1 : b ≠ 13 := fun e => hb (.inl e)
        have h2 : b ≠ 10 := fun e => hb (.inr e)
        simp [h1, h2]
      rcases idx_cases l with ⟨h, hp⟩ | ⟨p, c, t, rfl, hp, hc', h⟩
      · refine .inl ⟨?_, ?_⟩
        · unfold Go.Lib.indexAny; rw [hc, h]; rfl
        · intro x hx
          rcases List.mem_cons.1 hx with rfl | hx
          · exact ⟨fun e => hb (.inr e), fun e => hb (.inl e)⟩
          · exact hp x hx
      · refine .inr ⟨b :: p, c, t, rfl, ?_, hc', ?_⟩
        · intro x hx
          rcases List.mem_cons.1 hx with rfl | hx
          · exact ⟨fun e => hb (.inr e), fun e => hb (.inl e)⟩
          · exact hp x hx
        · unfold Go.Lib.indexAny; rw [hc, h]
          have : ((p.length : Int) == -1) = false := by rw [beq_eq_false_iff_ne]; omega
          simp only [Bool.false_eq_true, if_false, this, List.length_cons]
          omega
end Ru
end

section
namespace Ru
open Go.Lib
def slen : List (List Nat) → Nat
  | [] => 0
  | w :: ws => w.length + 1 + slen ws
theorem slen_append : ∀ a b : List (List Nat), slen (a ++ b) = slen a + slen b
  | [], b => by simp [slen]
  | w :: a, b => by
    have := slen_append a b
    simp only [List.cons_append, slen]; omega
theorem glueW_len : ∀ ws : List (List Nat), ws ≠ [] → (glueW ws).length + 1 ≤ slen ws
  | [], h => absurd rfl h
  | [w], _ => by simp [glueW, slen]
  | w :: v :: r, _ => by
    have := glueW_len (v :: r) (by simp)
    simp only [glueW, List.length_append, List.length_cons, slen] at *
    omega
theorem slen_words : ∀ rs cur : List Nat, slen (wordsG cur rs) ≤ cur.length + rs.length + 1
  | [], cur => by
    unfold wordsG
    split
    · simp [slen]
    · simp [slen]
  | r :: t, cur => by
    have h1 := slen_words t []
    have h2 := slen_words t (cur ++ [r])
    unfold wordsG
    split
    · rw [slen_append]
      simp only [List.length_nil, List.length_cons] at *
      split
      · simp only [slen]; omega
      · simp only [slen]; omega
    · simp only [List.length_append, List.length_cons, List.length_nil] at *
      omega
theorem glue_words_len (rs : List Nat) : (glueW (wordsG [] rs)).length ≤ rs.length := by
  by_cases h : wordsG [] rs = []
  · rw [h]; exact Nat.zero_le _
  · have h1 := glueW_len _ h
    have h2 := slen_words rs []
    simp only [List.length_nil] at h2
    omega
theorem dec_four (l : List UInt8) : (dec l).2 ≤ 4 := by
  unfold dec Go.Lib.decodeN
  repeat' split
  all_goals simp
theorem runes_len : ∀ (n : Nat) (l : List UInt8), l.length ≤ n → (runes l).length ≤ l.length ∧ l.length ≤ 4 * (runes l).length
  | 0, l, h => by
    have : l = [] := List.length_eq_zero_iff.1 (by omega)
    subst this; simp [runes_nil]
  | n + 1, l, h => by
    by_cases hl : l = []
    · subst hl; simp [runes_nil]
    · have hp := dec_pos l hl
      have h4 := dec_four l
      have ih := runes_len n (l.drop (dec l).2) (by rw [List.length_drop]; omega)
      rw [runes_cons l hl, List.length_cons]
      rw [List.length_drop] at ih
      omega
theorem enc_len (r : Nat) : (enc r).length ≤ 4 := by
  unfold enc
  repeat' split
  all_goals simp
theorem flat_len : ∀ rs : List Nat, (rs.flatMap enc).length ≤ 4 * rs.length
  | [] => by simp
  | r :: t => by
    have := flat_len t
    have := enc_len r
    rw [List.flatMap_cons, List.length_append, List.length_cons]; omega
theorem glue_len (s : ByteArray) : (glueW (wordsG [] (runes s.data.toList))).length ≤ s.size := by
  have h1 := glue_words_len (runes s.data.toList)
  have h2 := (runes_len _ s.data.toList (Nat.le_refl _)).1
  rw [size_list] at h2
  omega
theorem join_len (s : ByteArray) : (join ((goFieldsP spaceN s).map (·.data.toList)) [32]).length ≤ 4 * s.size := by
  have h := (runes_len _ (join ((goFieldsP spaceN s).map (·.data.toList)) [32]) (Nat.le_refl _)).2
  have e : runes (join ((goFieldsP spaceN s).map (·.data.toList)) [32]) = glueW (wordsG [] (runes s.data.toList)) := by
    rw [runes_join, List.map_map]
    have := fields_words s
    rw [show (runes ∘ fun x : ByteArray => x.data.toList) = (fun x : ByteArray => runes x.data.toList) from rfl, this]
  rw [e] at h
  have := glue_len s
  omega
theorem mapd_len (s : ByteArray) : (mapD smallI (join ((goFieldsP spaceN s).map (·.data.toList)) [32])).length ≤ 4 * s.size := by
  rw [pipe]
  have h := flat_len ((glueW (wordsG [] (runes s.data.toList))).map smallN)
  rw [List.length_map] at h
  have := glue_len s
  omega
theorem slen_len : ∀ ws : List (List Nat), ws.length ≤ slen ws
  | [] => Nat.le_refl _
  | w :: ws => by
    have := slen_len ws
    simp only [List.length_cons, slen]; omega
theorem fields_len (s : ByteArray) : (goFieldsP spaceN s).length ≤ s.size + 1 := by
  have h := congrArg List.length (fields_words s)
  rw [List.length_map] at h
  have h1 := slen_len (wordsG [] (runes s.data.toList))
  have h2 := slen_words (runes s.data.toList) []
  have h3 := (runes_len _ s.data.toList (Nat.le_refl _)).1
  rw [size_list] at h3
  simp only [List.length_nil] at h2
  omega
theorem sharp_len (r : Nat) : ((smallR r).flatMap enc).length ≤ 4 := by
  unfold smallR sharp
  split
  · have : ([115, 115] : List Nat).flatMap enc = [115, 115] := by decide
    rw [this]; simp
  · rw [List.flatMap_cons, List.flatMap_nil, List.append_nil]; exact enc_len _
theorem fold_len (l : List UInt8) : (foldL l).length ≤ 4 * l.length := by
  unfold foldL
  rw [foldR_words]
  have key : ∀ rs : List Nat, ((rs.flatMap smallR).flatMap enc).length ≤ 4 * rs.length := by
    intro rs
    induction rs with
    | nil => simp
    | cons r t ih =>
      have := sharp_len r
      rw [List.flatMap_cons, List.flatMap_append, List.length_append, List.length_cons]; omega
  have h1 := key (glueW (wordsG [] (runes l)))
  have h2 := glue_words_len (runes l)
  have h3 := (runes_len _ l (Nat.le_refl _)).1
  omega
end Ru
end
