/- The plain layer: no program, no memory. -/
import Derived.Lib.DecodeNEq
namespace Ru

/-- the character with which bytes begin, and its width -/
def dec (l : List UInt8) : Nat × Nat := Go.Lib.decodeN l.length (l.getD 0 0).toNat (l.getD 1 0).toNat (l.getD 2 0).toNat (l.getD 3 0).toNat

def ok (r : Nat) : Prop := r < 55296 ∨ (57344 ≤ r ∧ r ≤ 1114111)

/-- a character's bytes -/
def enc (r : Nat) : List UInt8 :=
  if r < 128 then [r.toUInt8]
  else if r < 2048 then [(192 + r / 64).toUInt8, (128 + r % 64).toUInt8]
  else if r < 65536 then [(224 + r / 4096).toUInt8, (128 + r / 64 % 64).toUInt8, (128 + r % 64).toUInt8]
  else [(240 + r / 262144).toUInt8, (128 + r / 4096 % 64).toUInt8, (128 + r / 64 % 64).toUInt8, (128 + r % 64).toUInt8]

theorem u8 (n : Nat) (h : n < 256) : n.toUInt8.toNat = n := by
  simp [Nat.toUInt8, UInt8.toNat_ofNat']; omega

theorem dec_pos (l : List UInt8) (h : l ≠ []) : 1 ≤ (dec l).2 ∧ (dec l).2 ≤ l.length := by
  have hl : 1 ≤ l.length := List.length_pos_iff.2 h
  unfold dec Go.Lib.decodeN
  repeat' split
  all_goals (simp only; omega)

theorem dec_ok (l : List UInt8) : ok (dec l).1 := by
  have h0 : (l.getD 0 0).toNat < 256 := UInt8.toNat_lt _
  unfold ok dec Go.Lib.decodeN
  repeat' split
  all_goals (simp only; omega)

set_option maxHeartbeats 1000000 in
theorem dec_enc (r : Nat) (h : ok r) (t : List UInt8) : dec (enc r ++ t) = (r, (enc r).length) := by
  unfold ok at h
  unfold enc
  by_cases h1 : r < 128
  · rw [if_pos h1]
    simp only [dec, List.cons_append, List.nil_append, List.getD_cons_zero, u8 r (by omega)]
    unfold Go.Lib.decodeN
    rw [if_pos h1]; rfl
  rw [if_neg h1]
  by_cases h2 : r < 2048
  · rw [if_pos h2]
    simp only [dec, List.cons_append, List.nil_append, List.getD_cons_zero, List.getD_cons_succ, u8 (192 + r / 64) (by omega), u8 (128 + r % 64) (by omega), List.length_cons]
    unfold Go.Lib.decodeN
    rw [if_neg (by omega), if_pos (by omega), if_pos (by omega)]
    simp only [Prod.mk.injEq]; refine ⟨by omega, by simp⟩
  rw [if_neg h2]
  by_cases h3 : r < 65536
  · rw [if_pos h3]
    simp only [dec, List.cons_append, List.nil_append, List.getD_cons_zero, List.getD_cons_succ, u8 (224 + r / 4096) (by omega), u8 (128 + r / 64 % 64) (by omega), u8 (128 + r % 64) (by omega), List.length_cons]
    unfold Go.Lib.decodeN
    rw [if_neg (by omega), if_neg (by omega), if_pos (by omega), if_pos (by omega)]
    simp only [Prod.mk.injEq]; refine ⟨by omega, by simp⟩
  · rw [if_neg h3]
    simp only [dec, List.cons_append, List.nil_append, List.getD_cons_zero, List.getD_cons_succ, u8 (240 + r / 262144) (by omega), u8 (128 + r / 4096 % 64) (by omega), u8 (128 + r / 64 % 64) (by omega), u8 (128 + r % 64) (by omega), List.length_cons]
    unfold Go.Lib.decodeN
    rw [if_neg (by omega), if_neg (by omega), if_neg (by omega), if_pos (by omega), if_pos (by omega)]
    simp only [Prod.mk.injEq]; refine ⟨by omega, by simp⟩

theorem enc_ne (r : Nat) : enc r ≠ [] := by
  unfold enc; repeat' split
  all_goals simp

/-! decodeN by the kind of its first byte -/
theorem dN_ascii (n b0 b1 b2 b3 : Nat) (h : b0 < 128) : Go.Lib.decodeN n b0 b1 b2 b3 = (b0, 1) := by unfold Go.Lib.decodeN; rw [if_pos h]
def g2 (b0 b1 : Nat) : Nat := b0 % 32 * 64 + b1 % 64
def g3 (b0 b1 b2 : Nat) : Nat := b0 % 16 * 4096 + b1 % 64 * 64 + b2 % 64
def g4 (b0 b1 b2 b3 : Nat) : Nat := b0 % 8 * 262144 + b1 % 64 * 4096 + b2 % 64 * 64 + b3 % 64
def gd (lo r : Nat) : Prop := lo ≤ r ∧ (r < 55296 ∨ (57344 ≤ r ∧ r ≤ 1114111))
instance (lo r : Nat) : Decidable (gd lo r) := inferInstanceAs (Decidable (_ ∧ _))
theorem dN_2 (n b0 b1 b2 b3 : Nat) (h : b0 / 32 = 6) : Go.Lib.decodeN n b0 b1 b2 b3 = if (1 < n ∧ b1 / 64 = 2) ∧ 128 ≤ g2 b0 b1 then (g2 b0 b1, 2) else (65533, 1) := by
  unfold Go.Lib.decodeN g2
  rw [if_neg (by omega)]
  by_cases p : 1 < n ∧ b1 / 64 = 2
  · rw [if_pos ⟨h, p⟩]
    by_cases q : 128 ≤ b0 % 32 * 64 + b1 % 64
    · rw [if_pos q, if_pos ⟨p, q⟩]
    · rw [if_neg (by omega), if_neg (fun x => q x.2)]
  · rw [if_neg (fun x => p x.2), if_neg (by omega), if_neg (by omega), if_neg (fun x => p x.1)]
theorem dN_3 (n b0 b1 b2 b3 : Nat) (h : b0 / 16 = 14) : Go.Lib.decodeN n b0 b1 b2 b3 = if ((1 < n ∧ b1 / 64 = 2) ∧ (2 < n ∧ b2 / 64 = 2)) ∧ gd 2048 (g3 b0 b1 b2) then (g3 b0 b1 b2, 3) else (65533, 1) := by
  unfold Go.Lib.decodeN g3 gd
  rw [if_neg (by omega), if_neg (by omega)]
  by_cases p : (1 < n ∧ b1 / 64 = 2) ∧ (2 < n ∧ b2 / 64 = 2)
  · rw [if_pos ⟨h, p⟩]
    by_cases q : 2048 ≤ b0 % 16 * 4096 + b1 % 64 * 64 + b2 % 64 ∧ (b0 % 16 * 4096 + b1 % 64 * 64 + b2 % 64 < 55296 ∨ (57344 ≤ b0 % 16 * 4096 + b1 % 64 * 64 + b2 % 64 ∧ b0 % 16 * 4096 + b1 % 64 * 64 + b2 % 64 ≤ 1114111))
    · rw [if_pos q, if_pos ⟨p, q⟩]
    · rw [if_neg q, if_neg (fun x => q x.2)]
  · rw [if_neg (fun x => p x.2), if_neg (by omega), if_neg (fun x => p x.1)]
theorem dN_4 (n b0 b1 b2 b3 : Nat) (h : b0 / 8 = 30) : Go.Lib.decodeN n b0 b1 b2 b3 = if ((1 < n ∧ b1 / 64 = 2) ∧ (2 < n ∧ b2 / 64 = 2) ∧ (3 < n ∧ b3 / 64 = 2)) ∧ gd 65536 (g4 b0 b1 b2 b3) then (g4 b0 b1 b2 b3, 4) else (65533, 1) := by
  unfold Go.Lib.decodeN g4 gd
  rw [if_neg (by omega), if_neg (by omega), if_neg (by omega)]
  by_cases p : (1 < n ∧ b1 / 64 = 2) ∧ (2 < n ∧ b2 / 64 = 2) ∧ (3 < n ∧ b3 / 64 = 2)
  · rw [if_pos ⟨h, p⟩]
    by_cases q : 65536 ≤ b0 % 8 * 262144 + b1 % 64 * 4096 + b2 % 64 * 64 + b3 % 64 ∧ (b0 % 8 * 262144 + b1 % 64 * 4096 + b2 % 64 * 64 + b3 % 64 < 55296 ∨ (57344 ≤ b0 % 8 * 262144 + b1 % 64 * 4096 + b2 % 64 * 64 + b3 % 64 ∧ b0 % 8 * 262144 + b1 % 64 * 4096 + b2 % 64 * 64 + b3 % 64 ≤ 1114111))
    · rw [if_pos q, if_pos ⟨p, q⟩]
    · rw [if_neg q, if_neg (fun x => q x.2)]
  · rw [if_neg (fun x => p x.2), if_neg (fun x => p x.1)]
theorem dN_bad (n b0 b1 b2 b3 : Nat) (h : 128 ≤ b0 ∧ b0 / 32 ≠ 6 ∧ b0 / 16 ≠ 14 ∧ b0 / 8 ≠ 30) : Go.Lib.decodeN n b0 b1 b2 b3 = (65533, 1) := by
  unfold Go.Lib.decodeN
  rw [if_neg (by omega), if_neg (fun x => h.2.1 x.1), if_neg (fun x => h.2.2.1 x.1), if_neg (fun x => h.2.2.2 x.1)]
/-- the bytes that a character has decide it -/
theorem dN_keeps (n n' b0 b1 b2 b3 c1 c2 c3 : Nat) (w : Nat) (hw : w = (Go.Lib.decodeN n b0 b1 b2 b3).2) (hw2 : 2 ≤ w)
    (h1 : 1 < n → 1 < w → 1 < n' ∧ c1 = b1) (h2 : 2 < n → 2 < w → 2 < n' ∧ c2 = b2) (h3 : 3 < n → 3 < w → 3 < n' ∧ c3 = b3) :
    Go.Lib.decodeN n' b0 c1 c2 c3 = Go.Lib.decodeN n b0 b1 b2 b3 := by
  by_cases k0 : b0 < 128
  · rw [dN_ascii _ _ _ _ _ k0] at hw; simp at hw; omega
  by_cases k2 : b0 / 32 = 6
  · rw [dN_2 _ _ _ _ _ k2] at hw ⊢
    rw [dN_2 _ _ _ _ _ k2]
    by_cases p : (1 < n ∧ b1 / 64 = 2) ∧ 128 ≤ g2 b0 b1
    · rw [if_pos p] at hw ⊢
      obtain ⟨a, rfl⟩ := h1 p.1.1 (by omega)
      rw [if_pos ⟨⟨a, p.1.2⟩, p.2⟩]
    · rw [if_neg p] at hw; simp at hw; omega
  by_cases k3 : b0 / 16 = 14
  · rw [dN_3 _ _ _ _ _ k3] at hw ⊢
    rw [dN_3 _ _ _ _ _ k3]
    by_cases p : ((1 < n ∧ b1 / 64 = 2) ∧ (2 < n ∧ b2 / 64 = 2)) ∧ gd 2048 (g3 b0 b1 b2)
    · rw [if_pos p] at hw ⊢
      simp only at hw
      obtain ⟨a, rfl⟩ := h1 p.1.1.1 (by omega)
      obtain ⟨a', rfl⟩ := h2 p.1.2.1 (by omega)
      rw [if_pos ⟨⟨⟨a, p.1.1.2⟩, ⟨a', p.1.2.2⟩⟩, p.2⟩]
    · rw [if_neg p] at hw; simp at hw; omega
  by_cases k4 : b0 / 8 = 30
  · rw [dN_4 _ _ _ _ _ k4] at hw ⊢
    rw [dN_4 _ _ _ _ _ k4]
    by_cases p : ((1 < n ∧ b1 / 64 = 2) ∧ (2 < n ∧ b2 / 64 = 2) ∧ (3 < n ∧ b3 / 64 = 2)) ∧ gd 65536 (g4 b0 b1 b2 b3)
    · rw [if_pos p] at hw ⊢
      simp only at hw
      obtain ⟨a, rfl⟩ := h1 p.1.1.1 (by omega)
      obtain ⟨a', rfl⟩ := h2 p.1.2.1.1 (by omega)
      obtain ⟨a'', rfl⟩ := h3 p.1.2.2.1 (by omega)
      rw [if_pos ⟨⟨⟨a, p.1.1.2⟩, ⟨a', p.1.2.1.2⟩, ⟨a'', p.1.2.2.2⟩⟩, p.2⟩]
    · rw [if_neg p] at hw; simp at hw; omega
  · rw [dN_bad _ _ _ _ _ ⟨by omega, k2, k3, k4⟩] at hw; simp at hw; omega
/-- one byte wide: the first byte decides, or there is none -/
theorem dN_one (n b0 b1 b2 b3 : Nat) (h : (Go.Lib.decodeN n b0 b1 b2 b3).2 < 2) : Go.Lib.decodeN n b0 b1 b2 b3 = if b0 < 128 then (b0, 1) else (65533, 1) := by
  by_cases k0 : b0 < 128
  · rw [dN_ascii _ _ _ _ _ k0, if_pos k0]
  rw [if_neg k0]
  by_cases k2 : b0 / 32 = 6
  · rw [dN_2 _ _ _ _ _ k2] at h ⊢
    split at h
    · simp at h
    · rename_i p; rw [if_neg p]
  by_cases k3 : b0 / 16 = 14
  · rw [dN_3 _ _ _ _ _ k3] at h ⊢
    split at h
    · simp at h
    · rename_i p; rw [if_neg p]
  by_cases k4 : b0 / 8 = 30
  · rw [dN_4 _ _ _ _ _ k4] at h ⊢
    split at h
    · simp at h
    · rename_i p; rw [if_neg p]
  · rw [dN_bad _ _ _ _ _ ⟨by omega, k2, k3, k4⟩]
/-- a character that stands at the beginning of some bytes stands at the beginning of those and more; and of so many of them as it has -/
theorem dec_keeps (l m : List UInt8) (h0 : l.getD 0 0 = m.getD 0 0) (hw : 2 ≤ (dec l).2) (h : ∀ i, i < l.length → i < (dec l).2 → i < m.length ∧ m.getD i 0 = l.getD i 0) : dec m = dec l := by
  unfold dec at hw h ⊢
  rw [← h0]
  refine dN_keeps _ _ _ _ _ _ _ _ _ _ rfl hw (fun a b => ?_) (fun a b => ?_) (fun a b => ?_)
  · have := h 1 a b; exact ⟨this.1, by rw [this.2]⟩
  · have := h 2 a b; exact ⟨this.1, by rw [this.2]⟩
  · have := h 3 a b; exact ⟨this.1, by rw [this.2]⟩
theorem dec_one' (l : List UInt8) (h : (dec l).2 < 2) : dec l = if (l.getD 0 0).toNat < 128 then ((l.getD 0 0).toNat, 1) else (65533, 1) := dN_one _ _ _ _ _ h
/-- the bytes of a wide character -/
theorem dN_high (n b0 b1 b2 b3 : Nat) (h : 2 ≤ (Go.Lib.decodeN n b0 b1 b2 b3).2) :
    128 ≤ b0 ∧ (1 < (Go.Lib.decodeN n b0 b1 b2 b3).2 → 128 ≤ b1) ∧ (2 < (Go.Lib.decodeN n b0 b1 b2 b3).2 → 128 ≤ b2) ∧ (3 < (Go.Lib.decodeN n b0 b1 b2 b3).2 → 128 ≤ b3) ∧ (Go.Lib.decodeN n b0 b1 b2 b3).2 ≤ 4 := by
  by_cases k0 : b0 < 128
  · rw [dN_ascii _ _ _ _ _ k0] at h; simp at h
  by_cases k2 : b0 / 32 = 6
  · rw [dN_2 _ _ _ _ _ k2] at h ⊢
    split at h
    · rename_i p; rw [if_pos p]; simp only; omega
    · simp at h
  by_cases k3 : b0 / 16 = 14
  · rw [dN_3 _ _ _ _ _ k3] at h ⊢
    split at h
    · rename_i p; rw [if_pos p]; simp only; omega
    · simp at h
  by_cases k4 : b0 / 8 = 30
  · rw [dN_4 _ _ _ _ _ k4] at h ⊢
    split at h
    · rename_i p; rw [if_pos p]; simp only; omega
    · simp at h
  · rw [dN_bad _ _ _ _ _ ⟨by omega, k2, k3, k4⟩] at h; simp at h
theorem dec_high (l : List UInt8) (h : 2 ≤ (dec l).2) (j : Nat) (hj : j < (dec l).2) : 128 ≤ (l.getD j 0).toNat := by
  obtain ⟨h0, h1, h2, h3, h4⟩ := dN_high _ _ _ _ _ h
  unfold dec at hj h
  rcases (by omega : j = 0 ∨ j = 1 ∨ j = 2 ∨ j = 3) with rfl | rfl | rfl | rfl
  · exact h0
  · exact h1 hj
  · exact h2 hj
  · exact h3 hj
theorem dec_rune_high (l : List UInt8) (h : 2 ≤ (dec l).2) : 128 ≤ (dec l).1 := by
  unfold dec at *
  generalize l.length = n at *; generalize (l.getD 0 0).toNat = b0 at *; generalize (l.getD 1 0).toNat = b1 at *; generalize (l.getD 2 0).toNat = b2 at *; generalize (l.getD 3 0).toNat = b3 at *
  by_cases k0 : b0 < 128
  · rw [dN_ascii _ _ _ _ _ k0] at h; simp at h
  by_cases k2 : b0 / 32 = 6
  · rw [dN_2 _ _ _ _ _ k2] at h ⊢
    split at h
    · rename_i p; rw [if_pos p]; exact p.2
    · simp at h
  by_cases k3 : b0 / 16 = 14
  · rw [dN_3 _ _ _ _ _ k3] at h ⊢
    split at h
    · rename_i p; rw [if_pos p]; have := p.2.1; simp only; omega
    · simp at h
  by_cases k4 : b0 / 8 = 30
  · rw [dN_4 _ _ _ _ _ k4] at h ⊢
    split at h
    · rename_i p; rw [if_pos p]; have := p.2.1; simp only; omega
    · simp at h
  · rw [dN_bad _ _ _ _ _ ⟨by omega, k2, k3, k4⟩] at h; simp at h
/-- cut behind it, the same -/
theorem dec_take (l : List UInt8) (k : Nat) (hk : (dec l).2 ≤ k) (hl : l ≠ []) : dec (l.take k) = dec l := by
  have hp := dec_pos l hl
  have hg : ∀ i, i < k → (l.take k).getD i 0 = l.getD i 0 := by
    intro i hi
    simp only [List.getD_eq_getElem?_getD, List.getElem?_take, if_pos hi]
  by_cases hw : 2 ≤ (dec l).2
  · refine dec_keeps l (l.take k) (hg 0 (by omega)).symm hw (fun i h1 h2 => ⟨by rw [List.length_take]; omega, hg i (by omega)⟩)
  · by_cases hw' : 2 ≤ (dec (l.take k)).2
    · have hs : ∀ i, i < (l.take k).length → i < k := fun i hi => by rw [List.length_take] at hi; omega
      exact (dec_keeps (l.take k) l (hg 0 (by omega)) hw' (fun i h1 _ => ⟨by rw [List.length_take] at h1; omega, (hg i (hs i h1)).symm⟩)).symm
    · rw [dec_one' _ (by omega), dec_one' l (by omega), hg 0 (by omega)]

def runesF : Nat → List UInt8 → List Nat
  | 0, _ => []
  | n + 1, l => if l = [] then [] else (dec l).1 :: runesF n (l.drop (dec l).2)
/-- the characters of some bytes -/
def runes (l : List UInt8) : List Nat := runesF l.length l

theorem runesF_more : ∀ (n m : Nat) (l : List UInt8), l.length ≤ n → l.length ≤ m → runesF n l = runesF m l
  | 0, 0, _, _, _ => rfl
  | 0, m + 1, l, h, _ => by
    have : l = [] := List.length_eq_zero_iff.1 (by omega)
    simp [runesF, this]
  | n + 1, 0, l, _, h => by
    have : l = [] := List.length_eq_zero_iff.1 (by omega)
    simp [runesF, this]
  | n + 1, m + 1, l, hn, hm => by
    by_cases h : l = []
    · simp [runesF, h]
    · have hp := dec_pos l h
      simp only [runesF, if_neg h]
      rw [runesF_more n m _ (by rw [List.length_drop]; omega) (by rw [List.length_drop]; omega)]

theorem runes_nil : runes [] = [] := rfl
theorem runes_cons (l : List UInt8) (h : l ≠ []) : runes l = (dec l).1 :: runes (l.drop (dec l).2) := by
  have hp := dec_pos l h
  have hl : 1 ≤ l.length := List.length_pos_iff.2 h
  obtain ⟨n, hn⟩ : ∃ n, l.length = n + 1 := ⟨l.length - 1, by omega⟩
  unfold runes
  rw [hn]
  simp only [runesF, if_neg h]
  rw [runesF_more n _ _ (by rw [List.length_drop]; omega) (Nat.le_refl _)]

theorem runes_ok (l : List UInt8) : ∀ r ∈ runes l, ok r := by
  generalize hn : l.length = n
  induction n using Nat.strongRecOn generalizing l with
  | _ n ih =>
    by_cases h : l = []
    · subst h; intro r hr; simp [runes_nil] at hr
    · have hp := dec_pos l h
      rw [runes_cons l h]
      intro r hr
      rcases List.mem_cons.1 hr with rfl | hr
      · exact dec_ok l
      · exact ih (l.drop (dec l).2).length (by rw [List.length_drop]; omega) _ rfl r hr

theorem runes_enc (r : Nat) (h : ok r) (t : List UInt8) : runes (enc r ++ t) = r :: runes t := by
  rw [runes_cons _ (by simp [enc_ne]), dec_enc r h t]
  simp

theorem runes_flat (rs : List Nat) (h : ∀ r ∈ rs, ok r) (t : List UInt8) : runes (rs.flatMap enc ++ t) = rs ++ runes t := by
  induction rs with
  | nil => simp
  | cons r rs ih =>
    rw [List.flatMap_cons, List.append_assoc, runes_enc r (h r (by simp)), ih (fun x hx => h x (by simp [hx]))]
    rfl

/-- A1 -/
def fix (r : Nat) : Nat := if r = 0 then 65533 else r
def cleanL (l : List UInt8) : List UInt8 := ((runes l).map fix).flatMap enc

theorem fix_ok {r : Nat} (h : ok r) : ok (fix r) := by
  unfold fix; split
  · unfold ok; omega
  · exact h
theorem fix_fix (r : Nat) : fix (fix r) = fix r := by unfold fix; split <;> simp_all

theorem cleanL_nil : cleanL [] = [] := rfl
theorem cleanL_cons (l : List UInt8) (h : l ≠ []) : cleanL l = enc (fix (dec l).1) ++ cleanL (l.drop (dec l).2) := by
  unfold cleanL; rw [runes_cons l h]; simp

theorem clean_flat (rs : List Nat) (h : ∀ r ∈ rs, ok r) : cleanL (rs.flatMap enc) = (rs.map fix).flatMap enc := by
  unfold cleanL
  have := runes_flat rs h []
  simp only [List.append_nil, runes_nil] at this
  rw [this]

theorem clean_clean (l : List UInt8) : cleanL (cleanL l) = cleanL l := by
  have hok : ∀ r ∈ (runes l).map fix, ok r := by
    intro r hr
    obtain ⟨x, hx, rfl⟩ := List.mem_map.1 hr
    exact fix_ok (runes_ok l x hx)
  show cleanL (((runes l).map fix).flatMap enc) = _
  rw [clean_flat _ hok, List.map_map]
  have : (fix ∘ fix) = fix := funext fix_fix
  rw [this]; rfl

/-- a text of right characters stays -/
theorem clean_stays (rs : List Nat) (h : ∀ r ∈ rs, ok r ∧ r ≠ 0) : cleanL (rs.flatMap enc) = rs.flatMap enc := by
  rw [clean_flat rs (fun r hr => (h r hr).1)]
  congr 1
  have : rs.map fix = rs.map id := List.map_congr_left (fun r hr => by unfold fix; rw [if_neg (h r hr).2]; rfl)
  rw [this, List.map_id]

/-- at each place that is come to within a cleaned text there stands a character -/
def Whole (l : List UInt8) : Prop := ∃ rs : List Nat, (∀ r ∈ rs, ok r ∧ r ≠ 0) ∧ l = rs.flatMap enc
theorem whole_clean (l : List UInt8) : Whole (cleanL l) := by
  refine ⟨(runes l).map fix, ?_, rfl⟩
  intro r hr
  obtain ⟨x, hx, rfl⟩ := List.mem_map.1 hr
  refine ⟨fix_ok (runes_ok l x hx), ?_⟩
  unfold fix; split <;> omega
theorem Whole.step {l : List UInt8} (h : Whole l) (hn : l ≠ []) : (dec l).1 ≠ 0 ∧ ¬ ((dec l).1 = 65533 ∧ (dec l).2 = 1) ∧ Whole (l.drop (dec l).2) := by
  obtain ⟨rs, hr, rfl⟩ := h
  cases rs with
  | nil => simp at hn
  | cons r rs =>
    rw [List.flatMap_cons, dec_enc r (hr r (by simp)).1]
    refine ⟨(hr r (by simp)).2, ?_, ⟨rs, fun x hx => hr x (by simp [hx]), by simp⟩⟩
    rintro ⟨h1, h2⟩
    simp only at h1 h2
    subst h1
    revert h2; decide

end Ru
