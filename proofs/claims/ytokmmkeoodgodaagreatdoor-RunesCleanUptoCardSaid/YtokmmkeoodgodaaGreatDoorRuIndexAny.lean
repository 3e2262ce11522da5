/-
  strings.IndexAny(s, "\r\n") AT EVERY TEXT (valid or not) up to 2^28 bytes: where the first of the two stands.
-/
import Derived.Test.YtokmmkeoodgodaaGreatDoorRuIndex
namespace Go.Proofs.YtokmmkeoodgodaaGreatDoor
open Go.RowKit Go.Lib

theorem contains_crlf (x : UInt8) : ([13, 10] : List UInt8).contains x = decide (x = 13 ∨ x = 10) := by
  by_cases h1 : x = 13
  · subst h1; rfl
  · by_cases h2 : x = 10
    · subst h2; rfl
    · rw [decide_eq_false (by simp [h1, h2])]
      simp [h1, h2]
theorem at_getD (l : List UInt8) (j : Nat) (b : UInt8) (h : l[j]? = some b) : l.getD j 0 = b := by simp [List.getD_eq_getElem?_getD, h]
theorem noAny_step (l : List UInt8) (i r k : Nat) (hi : i < l.length) (hr : (Ru.dec (l.drop i)).1 = r) (hk : (Ru.dec (l.drop i)).2 = k) (h : NoAny l [13, 10] i) (h13 : r ≠ 13) (h10 : r ≠ 10) : NoAny l [13, 10] (i + k) := by
  intro j b hj hb
  by_cases hji : j < i
  · exact h j b hji hb
  rw [contains_crlf, decide_eq_false_iff_not]
  have hg := at_getD l j b hb
  have key : b.toNat ≠ 13 ∧ b.toNat ≠ 10 := by
    by_cases h2 : 2 ≤ k
    · have := Ru.dec_high (l.drop i) (by omega) (j - i) (by omega)
      rw [Ru.getD_drop, show i + (j - i) = j by omega, hg] at this
      omega
    · have hone := Ru.dec_one' (l.drop i) (by omega)
      rw [Ru.getD_drop, Nat.add_zero] at hone
      have hj0 : j = i := by omega
      subst hj0
      rw [hg] at hone
      by_cases hb8 : b.toNat < 128
      · rw [if_pos hb8] at hone
        have : r = b.toNat := by rw [← hr, hone]
        omega
      · omega
  rintro (rfl | rfl)
  · exact key.1 rfl
  · exact key.2 rfl
theorem hit_step (l : List UInt8) (i r : Nat) (hi : i < l.length) (hr : (Ru.dec (l.drop i)).1 = r) (h : NoAny l [13, 10] i) (hh : r = 13 ∨ r = 10) : Lib.indexAny l [13, 10] = i := by
  have h2 : (Ru.dec (l.drop i)).2 < 2 := by
    rcases Nat.lt_or_ge (Ru.dec (l.drop i)).2 2 with h2 | h2
    · exact h2
    · have := Ru.dec_rune_high _ h2; omega
  have hone := Ru.dec_one' (l.drop i) h2
  rw [Ru.getD_drop, Nat.add_zero] at hone
  obtain ⟨b, hb⟩ : ∃ b, l[i]? = some b := ⟨l[i], List.getElem?_eq_getElem hi⟩
  rw [at_getD l i b hb] at hone
  have hb8 : b.toNat < 128 := by
    rcases Nat.lt_or_ge b.toNat 128 with h8 | h8
    · exact h8
    · rw [if_neg (by omega)] at hone; rw [hone] at hr; simp at hr; omega
  rw [if_pos hb8] at hone
  have hbr : b.toNat = r := by rw [← hr, hone]
  refine Lib.indexAny_hit h hb ?_
  rw [contains_crlf, decide_eq_true_iff]
  rcases hh with hh | hh
  · left; exact UInt8.toNat_inj.1 (by rw [hbr, hh]; rfl)
  · right; exact UInt8.toNat_inj.1 (by rw [hbr, hh]; rfl)

set_option maxHeartbeats 8000000 in
set_option maxRecDepth 1000000 in
/-- a text of at most eight bytes, valid or not -/
theorem index_any_short (s : ByteArray) (h8 : s.size ≤ 8) (w : World) :
    Calls Tryz.prog 32 #[.string s, .string ⟨#[13, 10]⟩] w fun e w' => e = .returned (.int .i64 (Lib.indexAny s.data.toList [13, 10])) ∧ Below w.heap.size w w' := by
  have h8z : decide ((8 : Int) < (s.size : Int)) = false := decide_eq_false (by omega)
  go_enter Tryz.func32, Tryz.ntmps32
  go_wp2_with (go_at_call 46; refine (Tryz.strings_shouldUseASCIISet _ _).mono ?_; rintro e w' ⟨rfl, hw⟩; rw [hw, h8z])
  go_loopg [9, 10] s.size (fun g _ _ wx => ∃ i : Nat, s.size ≤ i + g ∧ i ≤ s.size ∧ wx.heap[w.heap.size]? = some (.stringIter s i) ∧ Below w.heap.size w wx ∧ Lib.NoAny s.data.toList [13, 10] i)
  case atStart => exact ⟨0, by omega, by omega, World.iter_heap w s 0, (Below.refl _ _).alloc (Nat.le_refl _) _, Lib.NoAny.zero _ _⟩
  case round =>
    obtain ⟨i, hig, his, hit, hbw, hno⟩ := hrel
    by_cases hi : i < s.size
    · obtain ⟨g, rfl⟩ : ∃ g, gk = g + 1 := ⟨gk - 1, by omega⟩
      have hnx : ∀ ty, (Instr.next (.pointer (some ⟨w.heap.size, 0, none⟩)) true ty).run Tryz.prog wr = _ := fun ty => Lib.run_next_any_at wr w.heap.size s i ty hit hi
      have hil : i < s.data.toList.length := by rw [Ru.size_list]; exact hi
      have hdl : s.data.toList.drop i ≠ [] := by
        intro h0
        have := congrArg List.length h0
        rw [List.length_drop, Ru.size_list] at this; simp at this; omega
      have hp := Ru.dec_pos _ hdl
      rw [List.length_drop, Ru.size_list] at hp
      have hok := Ru.dec_ok (s.data.toList.drop i)
      rw [Ru.decode_dec s i] at hnx
      have hit2 := Lib.iterAt_heap wr w.heap.size s i (i + (Ru.dec (s.data.toList.drop i)).2) hit
      have hbw2 := Lib.below_iterAt hbw (k := w.heap.size) (by omega) s (i + (Ru.dec (s.data.toList.drop i)).2)
      have hsz2 : w.heap.size < (wr.iterAt w.heap.size s (i + (Ru.dec (s.data.toList.drop i)).2)).heap.size := (Array.getElem?_eq_some_iff.1 hit2).1
      generalize hr : (Ru.dec (s.data.toList.drop i)).1 = r at *
      generalize hw : (Ru.dec (s.data.toList.drop i)).2 = k at *
      have HC := fun W => index_rune_crlf r hok W
      by_cases h13 : r = 13
      · have hI := hit_step _ i r hil hr hno (.inl h13)
        simp only [if_pos h13] at HC
        have HI := Lib.hid hI
        clear hI hr hw hno hdl h13
        go_wp2_with (go_at_call 45; refine (HC _).mono ?_; rintro e W' ⟨rfl, hb'⟩)
        go_ret
        exact ⟨by rw [HI.out]; rfl, hbw2.trans (hb'.mono (by omega))⟩
      by_cases h10 : r = 10
      · have hI := hit_step _ i r hil hr hno (.inr h10)
        simp only [if_neg h13, if_pos h10] at HC
        have HI := Lib.hid hI
        clear hI hr hw hno hdl h13 h10
        go_wp2_with (go_at_call 45; refine (HC _).mono ?_; rintro e W' ⟨rfl, hb'⟩)
        go_ret
        exact ⟨by rw [HI.out]; rfl, hbw2.trans (hb'.mono (by omega))⟩
      · have hN := noAny_step _ i r k hil hr hw hno h13 h10
        simp only [if_neg h13, if_neg h10] at HC
        have HN := Lib.hid hN
        clear hN hr hw hno hdl h13 h10
        go_wp2_with (go_at_call 45; refine (HC _).mono ?_; rintro e W' ⟨rfl, hb'⟩)
        go_roundg g
        case measure => omega
        case rel => exact ⟨i + k, by omega, by omega, (hb'.block _ hsz2).trans hit2, hbw2.trans (hb'.mono (by omega)), HN.out⟩
    · obtain rfl : i = s.size := by omega
      have HN := Lib.hid hno
      clear hno
      have hnx : ∀ ty, (Instr.next (.pointer (some ⟨w.heap.size, 0, none⟩)) true ty).run Tryz.prog wr = _ := fun ty => Lib.run_next_end_at wr w.heap.size s s.size ty hit hi
      go_wp2
      go_ret
      exact ⟨by rw [Lib.indexAny_none (by rw [← Lib.size_eq]; exact HN.out)]; rfl, hbw⟩

theorem zero_set : ∀ w, (zeroValue 88).run Tryz.prog w = .ok (.agg (Array.replicate 256 (.bool false))) w := fun w => by kernel_rfl
theorem index_any (s : ByteArray) (hs : s.size ≤ 268435456) (w : World) :
    Calls Tryz.prog 32 #[.string s, .string ⟨#[13, 10]⟩] w fun e w' => e = .returned (.int .i64 (Lib.indexAny s.data.toList [13, 10])) ∧ Below w.heap.size w w' := by
  by_cases h8 : s.size ≤ 8
  · exact index_any_short s h8 w
  · refine (Tryz.strings_IndexAny_long zero_set s ⟨#[13, 10]⟩ w (by decide) (by omega) (by omega) (by decide) (fun j b hb => ?_)).mono ?_
    · have hb' : ([13, 10] : List UInt8)[j]? = some b := hb
      have := List.mem_of_getElem? hb'
      simp at this
      rcases this with rfl | rfl <;> decide
    · rintro e w' ⟨rfl, rfl⟩
      exact ⟨rfl, ((Below.refl _ _).alloc (Nat.le_refl _) _).alloc (by simp) _⟩
end Go.Proofs.YtokmmkeoodgodaaGreatDoor
