/-
  strings.IndexAny(s, "\r\n") AT EVERY TEXT (valid or not) up to 2^28 bytes: where the first of the two stands.
-/
import Derived.Test.YtokmmkeoodgodaaGreatDoorShelf
import Derived.Test.YtokmmkeoodgodaaGreatDoorRuDefs
import Derived.Test.YtokmmkeoodgodaaGreatDoorAid
import Derived.WalkKit
import Derived.Deep.LoopGhost
import Derived.Deep.QuietTactic
import Derived.BigQuiet
import Derived.LoopN
import Derived.Lib.Hide
import Derived.Outline
import Derived.Laws.Runes
import Derived.Lib.OthersKept
namespace Go.Proofs.YtokmmkeoodgodaaGreatDoor
open Go.RowKit Go.Lib

def crlf : ByteArray := ⟨#[13, 10]⟩
theorem crlf_size : crlf.size = 2 := rfl

set_option maxHeartbeats 2000000 in
set_option maxRecDepth 1000000 in
theorem index_rune_none (w : World) : Calls Tryz.prog 45 #[.string crlf, .int .i32 65533] w fun e w' => e = .returned (.int .i64 (-1)) ∧ Below w.heap.size w w' := by
  have n0 := fun ty => run_next_ascii (P := Tryz.prog) w crlf 0 ty (by decide) (by decide)
  have n1 := fun ty => run_next_ascii (P := Tryz.prog) w crlf 1 ty (by decide) (by decide)
  have n2 := fun ty => run_next_end (P := Tryz.prog) w crlf 2 ty (by decide)
  rw [show (crlf[0]'(by decide)).toNat = 13 from rfl] at n0
  rw [show (crlf[1]'(by decide)).toNat = 10 from rfl] at n1
  generalize hc : crlf = C at *
  have HC := Lib.hid hc
  clear hc
  go_enter Tryz.func45, Tryz.ntmps45
  go_wp2
  refine wp_loop_rounds 3 ?_
  rw [rounds_succ]
  go_wp2
  rw [rounds_succ]
  go_wp2
  rw [rounds_succ]
  go_wp2
  go_ret
  exact ⟨rfl, (Below.refl _ _).alloc (Nat.le_refl _) _⟩

set_option maxHeartbeats 2000000 in
set_option maxRecDepth 1000000 in
theorem index_rune_big (c : Nat) (hv : Ru.ok c) (h1 : 128 ≤ c) (h2 : c ≠ 65533) (w : World) :
    Calls Tryz.prog 45 #[.string ⟨#[13, 10]⟩, .int .i32 c] w fun e w' => e = .returned (.int .i64 (-1)) ∧ Below w.heap.size w w' := by
  have hval : Lib.validRune (c : Int) = true := decide_eq_true (by unfold Ru.ok at hv; omega)
  have hv2 : Utf8.valid (c : Int) = true := by rw [validRune_eq]; exact decide_eq_true (by unfold Ru.ok at hv; omega)
  obtain ⟨f1, f2, f3⟩ := encode_facts c hv2 (by omega)
  have hc65 : ((c : Int) == 65533) = false := beq_eq_false_iff_ne.2 (by omega)
  have hc128 : decide ((c : Int) < 128) = false := decide_eq_false (by omega)
  have hc0 : (0 : Int) ≤ (c : Int) := by omega
  have hcl : ¬ ((c : Int) < 128) := by omega
  generalize he : Utf8.encode (c : Int) = E at *
  have HV := Lib.hid hval
  clear hval hv hv2 h1 h2
  by_cases hs : E.size = 2
  · have hb := f3 (by omega)
    obtain ⟨x, hx⟩ : ∃ x : UInt8, E[E.size - 1]'(by omega) = x := ⟨_, rfl⟩
    rw [hx] at hb
    have e1 : E.size - 1 = 1 := by omega
    have hx1 : ∀ h : 1 < E.size, E[1]'h = x := fun h => by simpa only [e1] using hx
    clear hx e1 f3 f1 f2
    have hne : ((((⟨#[13, 10]⟩ : ByteArray)[1]'(by decide)).toNat : Int) != (x.toNat : Int)) = true := by rw [bne_iff_ne, show (((⟨#[13, 10]⟩ : ByteArray)[1]'(by decide)).toNat) = 10 from rfl]; omega
    have hV := fun W => (Tryz.utf8_ValidRune (c : Int) W)
    go_enter Tryz.func45, Tryz.ntmps45
    go_wp2_with (go_at_call 58; refine (hV _).mono ?_; rintro e w' ⟨rfl, hw⟩; rw [hw, HV.out])
    go_step3
    go_wp2
    refine wp_loop_rounds 1 ?_
    rw [rounds_succ]
    go_wp2
    go_step3
    go_wp2
    go_quiet (fail)
    go_wp2
    go_quiet ((go_at_call 31; exact aid.quiet2 (Tryz.strings_IndexByte _ _ _)))
    go_wp2
    rw [Exit.noGoto_ret]
    go_wp2
    rw [Exit.noGoto_ret]
    go_ret
    exact ⟨rfl, aid.below_drewN (Below.refl _ _) _⟩
  · have hV := fun W => (Tryz.utf8_ValidRune (c : Int) W)
    have hs3 : (3 : Int) ≤ (E.size : Int) := by omega
    have hs4 : (E.size : Int) ≤ 4 := by omega
    have hlt : ¬ ((E.size : Int) - 1 < 2) := by omega
    clear f1 f2 f3 hs
    go_enter Tryz.func45, Tryz.ntmps45
    go_wp2_with (go_at_call 58; refine (hV _).mono ?_; rintro e w' ⟨rfl, hw⟩; rw [hw, HV.out])
    go_step3
    go_wp2
    refine wp_loop_rounds 1 ?_
    rw [rounds_succ]
    go_wp2
    simp only [Exit.noGoto_ret]
    go_ret
    exact ⟨rfl, Below.refl _ _⟩

/-- IndexRune("\r\n", c) at whatever character a decoder hands out -/
theorem index_rune_crlf (c : Nat) (hv : Ru.ok c) (w : World) : Calls Tryz.prog 45 #[.string ⟨#[13, 10]⟩, .int .i32 c] w fun e w' => e = .returned (.int .i64 (if c = 13 then 0 else if c = 10 then 1 else -1)) ∧ Below w.heap.size w w' := by
  by_cases h1 : c < 128
  · refine (Tryz.strings_IndexRune_ascii ⟨#[13, 10]⟩ c w (by omega) (by omega)).mono ?_
    rintro e w' ⟨rfl, rfl⟩
    refine ⟨?_, Below.refl _ _⟩
    congr 2
    show Lib.indexByte [13, 10] ((c : Int).toNat).toUInt8 = _
    rw [Int.toNat_natCast]
    have hb : c.toUInt8.toNat = c := Ru.u8 c (by omega)
    have e1 : ((13 : UInt8) == c.toUInt8) = decide (c = 13) := by
      by_cases h : c = 13
      · subst h; rfl
      · rw [decide_eq_false h, beq_eq_false_iff_ne]; intro e; rw [← e] at hb; exact h hb.symm
    have e2 : ((10 : UInt8) == c.toUInt8) = decide (c = 10) := by
      by_cases h : c = 10
      · subst h; rfl
      · rw [decide_eq_false h, beq_eq_false_iff_ne]; intro e; rw [← e] at hb; exact h hb.symm
    simp only [Lib.indexByte, e1, e2]
    by_cases h13 : c = 13
    · simp [h13]
    · by_cases h10 : c = 10 <;> simp [h13, h10]
  · by_cases h2 : c = 65533
    · subst h2
      exact index_rune_none w
    · rw [if_neg (by omega), if_neg (by omega)]
      exact index_rune_big c hv (by omega) h2 w
end Go.Proofs.YtokmmkeoodgodaaGreatDoor
