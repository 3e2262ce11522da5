/-
  runes.Mark and runes.Punct AT EVERY CHARACTER: they tell what they are to tell.
-/
import Derived.Test.YtokmmkeoodgodaaGreatDoorRuFoldW
namespace Go.Proofs.YtokmmkeoodgodaaGreatDoor
open Go.RowKit Go.Lib Go.Proofs.YtokmmkeoodgodaaGreatDoorW.PrintWords Go.Proofs.YtokmmkeoodgodaaGreatDoorW.PrintMore
set_option linter.unusedSimpArgs false
set_option linter.unusedVariables false

/-- the marks of ASCII -/
def marks : List UInt8 := [33, 34, 35, 36, 37, 38, 39, 40, 41, 42, 43, 44, 45, 46, 47, 58, 59, 60, 61, 62, 63, 64, 91, 92, 93, 94, 95, 96, 123, 124, 125, 126]
theorem mark_idx (c : Nat) (hc : c < 256) : decide (0 ≤ Lib.indexByte marks c.toUInt8) = Ru.markN c := by
  have : ((List.range 256).all fun c => decide (0 ≤ Lib.indexByte marks c.toUInt8) == Ru.markN c) = true := by decide +kernel
  exact beq_iff_eq.1 (List.all_eq_true.1 this c (List.mem_range.2 hc))

set_option maxHeartbeats 4000000 in
set_option maxRecDepth 1000000 in
theorem mark_at (c : Nat) (hc : c < 256) (w : World) : Calls Tryz.prog 17 #[.int .u8 c] w fun e w' => e = .returned (.bool (Ru.markN c)) ∧ w' = w := by
  have hm := mark_idx c hc
  have hIB := Tryz.strings_IndexByte ⟨#[33, 34, 35, 36, 37, 38, 39, 40, 41, 42, 43, 44, 45, 46, 47, 58, 59, 60, 61, 62, 63, 64, 91, 92, 93, 94, 95, 96, 123, 124, 125, 126]⟩ c w
  rw [show (⟨#[33, 34, 35, 36, 37, 38, 39, 40, 41, 42, 43, 44, 45, 46, 47, 58, 59, 60, 61, 62, 63, 64, 91, 92, 93, 94, 95, 96, 123, 124, 125, 126]⟩ : ByteArray).data.toList = marks from rfl, Int.toNat_natCast] at hIB
  obtain ⟨R, hR⟩ : ∃ R, Ru.markN c = R := ⟨_, rfl⟩
  rw [hR] at hm ⊢
  generalize Lib.indexByte marks c.toUInt8 = I at *
  clear hR
  go_enter Tryz.func17, Tryz.ntmps17
  go_wp2_with (go_at_call 31; refine hIB.mono ?_; rintro e w1 ⟨rfl, hw1⟩; rw [hw1])
  go_ret
  exact ⟨by rw [← hm]; rfl, rfl⟩

/-- the fourteen stretches of punctuation beyond ASCII -/
def lows : List Int := [161, 171, 180, 182, 187, 191, 215, 247, 8208, 8240, 8352, 8592, 12289, 12296]
def highs : List Int := [169, 177, 180, 184, 187, 191, 215, 247, 8231, 8286, 8384, 8703, 12291, 12305]
def pairs : Array Value := #[.int .i32 161, .int .i32 169, .int .i32 171, .int .i32 177, .int .i32 180, .int .i32 180, .int .i32 182, .int .i32 184, .int .i32 187, .int .i32 187, .int .i32 191, .int .i32 191, .int .i32 215, .int .i32 215, .int .i32 247, .int .i32 247, .int .i32 8208, .int .i32 8231, .int .i32 8240, .int .i32 8286, .int .i32 8352, .int .i32 8384, .int .i32 8592, .int .i32 8703, .int .i32 12289, .int .i32 12291, .int .i32 12296, .int .i32 12305]
theorem punct_in (x : Int) (h0 : 128 ≤ x) : Ru.punctI x = true ↔ ∃ k, k < 14 ∧ lows.getD k 0 ≤ x ∧ x ≤ highs.getD k 0 := by
  unfold Ru.punctI
  simp only [Ru.punctN, Ru.markN, Ru.inN, Bool.or_eq_true, Bool.and_eq_true, beq_iff_eq, decide_eq_true_eq]
  constructor
  · intro h
    have : (161 ≤ x ∧ x ≤ 169) ∨ (171 ≤ x ∧ x ≤ 177) ∨ x = 180 ∨ (182 ≤ x ∧ x ≤ 184) ∨ x = 187 ∨ x = 191 ∨ x = 215 ∨ x = 247 ∨ (8208 ≤ x ∧ x ≤ 8231) ∨ (8240 ≤ x ∧ x ≤ 8286) ∨ (8352 ≤ x ∧ x ≤ 8384) ∨ (8592 ≤ x ∧ x ≤ 8703) ∨ (12289 ≤ x ∧ x ≤ 12291) ∨ (12296 ≤ x ∧ x ≤ 12305) := by omega
    rcases this with h | h | h | h | h | h | h | h | h | h | h | h | h | h
    · exact ⟨0, by omega, by show (161 : Int) ≤ x; omega, by show x ≤ 169; omega⟩
    · exact ⟨1, by omega, by show (171 : Int) ≤ x; omega, by show x ≤ 177; omega⟩
    · exact ⟨2, by omega, by show (180 : Int) ≤ x; omega, by show x ≤ 180; omega⟩
    · exact ⟨3, by omega, by show (182 : Int) ≤ x; omega, by show x ≤ 184; omega⟩
    · exact ⟨4, by omega, by show (187 : Int) ≤ x; omega, by show x ≤ 187; omega⟩
    · exact ⟨5, by omega, by show (191 : Int) ≤ x; omega, by show x ≤ 191; omega⟩
    · exact ⟨6, by omega, by show (215 : Int) ≤ x; omega, by show x ≤ 215; omega⟩
    · exact ⟨7, by omega, by show (247 : Int) ≤ x; omega, by show x ≤ 247; omega⟩
    · exact ⟨8, by omega, by show (8208 : Int) ≤ x; omega, by show x ≤ 8231; omega⟩
    · exact ⟨9, by omega, by show (8240 : Int) ≤ x; omega, by show x ≤ 8286; omega⟩
    · exact ⟨10, by omega, by show (8352 : Int) ≤ x; omega, by show x ≤ 8384; omega⟩
    · exact ⟨11, by omega, by show (8592 : Int) ≤ x; omega, by show x ≤ 8703; omega⟩
    · exact ⟨12, by omega, by show (12289 : Int) ≤ x; omega, by show x ≤ 12291; omega⟩
    · exact ⟨13, by omega, by show (12296 : Int) ≤ x; omega, by show x ≤ 12305; omega⟩
  · rintro ⟨k, hk, h1, h2⟩
    match k, hk, h1, h2 with
    | 0, _, h1, h2 => have h1 : (161 : Int) ≤ x := h1; have h2 : x ≤ 169 := h2; omega
    | 1, _, h1, h2 => have h1 : (171 : Int) ≤ x := h1; have h2 : x ≤ 177 := h2; omega
    | 2, _, h1, h2 => have h1 : (180 : Int) ≤ x := h1; have h2 : x ≤ 180 := h2; omega
    | 3, _, h1, h2 => have h1 : (182 : Int) ≤ x := h1; have h2 : x ≤ 184 := h2; omega
    | 4, _, h1, h2 => have h1 : (187 : Int) ≤ x := h1; have h2 : x ≤ 187 := h2; omega
    | 5, _, h1, h2 => have h1 : (191 : Int) ≤ x := h1; have h2 : x ≤ 191 := h2; omega
    | 6, _, h1, h2 => have h1 : (215 : Int) ≤ x := h1; have h2 : x ≤ 215 := h2; omega
    | 7, _, h1, h2 => have h1 : (247 : Int) ≤ x := h1; have h2 : x ≤ 247 := h2; omega
    | 8, _, h1, h2 => have h1 : (8208 : Int) ≤ x := h1; have h2 : x ≤ 8231 := h2; omega
    | 9, _, h1, h2 => have h1 : (8240 : Int) ≤ x := h1; have h2 : x ≤ 8286 := h2; omega
    | 10, _, h1, h2 => have h1 : (8352 : Int) ≤ x := h1; have h2 : x ≤ 8384 := h2; omega
    | 11, _, h1, h2 => have h1 : (8592 : Int) ≤ x := h1; have h2 : x ≤ 8703 := h2; omega
    | 12, _, h1, h2 => have h1 : (12289 : Int) ≤ x := h1; have h2 : x ≤ 12291 := h2; omega
    | 13, _, h1, h2 => have h1 : (12296 : Int) ≤ x := h1; have h2 : x ≤ 12305 := h2; omega
    | k + 14, hk, _, _ => omega
theorem index_pair (k : Nat) (hk : k < 14) (W : World) : (Instr.index 52 (.agg pairs) (.int .i64 (k : Int))).run Tryz.prog W = .ok (.agg #[.int .i32 (lows.getD k 0), .int .i32 (highs.getD k 0)]) W := by
  obtain rfl | rfl | rfl | rfl | rfl | rfl | rfl | rfl | rfl | rfl | rfl | rfl | rfl | rfl : k = 0 ∨ k = 1 ∨ k = 2 ∨ k = 3 ∨ k = 4 ∨ k = 5 ∨ k = 6 ∨ k = 7 ∨ k = 8 ∨ k = 9 ∨ k = 10 ∨ k = 11 ∨ k = 12 ∨ k = 13 := by omega
  all_goals kernel_rfl
theorem punct_low (x : Int) (h0 : 0 ≤ x) (h1 : x < 128) : Ru.punctI x = Ru.markN x.toNat := by
  unfold Ru.punctI
  rw [Bool.eq_iff_iff]
  simp only [Ru.punctN, Ru.markN, Ru.inN, Bool.or_eq_true, Bool.and_eq_true, beq_iff_eq, decide_eq_true_eq]
  omega

set_option maxHeartbeats 4000000 in
set_option maxRecDepth 1000000 in
theorem punct_at (x : Int) (h0 : -2147483648 ≤ x) (h1 : x ≤ 2147483647) (w : World) : Calls Tryz.prog 15 #[.int .i32 x] w fun e w' => e = .returned (.bool (Ru.punctI x)) ∧ Below w.heap.size w w' := by
  obtain ⟨R, hR⟩ : ∃ R, Ru.punctI x = R := ⟨_, rfl⟩
  rw [hR]
  have HR := Lib.hid hR
  clear hR
  by_cases hn : x < 0
  · have hR := HR.out
    rw [show Ru.punctI x = false by unfold Ru.punctI; rw [decide_eq_false (by omega)]; rfl] at hR
    subst hR
    have h128 : x < 128 := by omega
    go_enter Tryz.func15, Tryz.ntmps15
    go_wp2
    go_ret
    exact ⟨rfl, Below.refl _ _⟩
  · by_cases h128 : x < 128
    · have hR := HR.out
      rw [punct_low x (by omega) h128] at hR
      have hge : 0 ≤ x := by omega
      have hM := mark_at x.toNat (by omega) w
      rw [hR, Int.toNat_of_nonneg hge] at hM
      go_enter Tryz.func15, Tryz.ntmps15
      go_wp2_with (go_at_call 17; refine hM.mono ?_; rintro e w1 ⟨rfl, hw1⟩; rw [hw1])
      go_ret
      exact ⟨rfl, Below.refl _ _⟩
    · go_enter Tryz.func15, Tryz.ntmps15
      go_wp2
      go_loopg [29] 14 (fun gk i wx => ∃ k : Nat, i = .int .i64 k ∧ k + gk = 14 ∧ Below w.heap.size w wx ∧ Hid (∀ j, j < k → ¬ (lows.getD j 0 ≤ x ∧ x ≤ highs.getD j 0)))
      case atStart => exact ⟨0, rfl, rfl, Below.refl _ _, Lib.hid (fun j hj => absurd hj (Nat.not_lt_zero j))⟩
      case round =>
        obtain ⟨k, rfl, hk, hb, HN⟩ := hrel
        cases gk with
        | zero =>
          obtain rfl : k = 14 := by omega
          go_wp2
          go_ret
          refine ⟨?_, hb⟩
          have : R = false := by
            rw [← HR.out, Bool.eq_false_iff]
            intro h
            obtain ⟨j, hj, h2⟩ := (punct_in x (by omega)).1 h
            exact HN.out j hj h2
          rw [this]; rfl
        | succ k1 =>
          have hlt : (k : Int) < 14 := by omega
          have hix := fun W => index_pair k (by omega) W
          obtain ⟨lo, hlo⟩ : ∃ v, lows.getD k 0 = v := ⟨_, rfl⟩
          obtain ⟨hi, hhi⟩ : ∃ v, highs.getD k 0 = v := ⟨_, rfl⟩
          rw [hlo, hhi] at hix
          simp only [pairs] at hix
          have HLO := Lib.hid hlo
          have HHI := Lib.hid hhi
          clear hlo hhi
          by_cases c1 : lo ≤ x
          · by_cases c2 : x ≤ hi
            · go_wp2
              go_ret
              refine ⟨?_, hb.alloc hb.size _⟩
              have : R = true := by
                rw [← HR.out]
                exact (punct_in x (by omega)).2 ⟨k, by omega, by rw [HLO.out]; exact c1, by rw [HHI.out]; exact c2⟩
              rw [this]; rfl
            · go_wp2
              go_roundg k1
              case rel =>
                refine ⟨k + 1, by simp, by omega, hb.alloc hb.size _, Lib.hid (fun j hj => ?_)⟩
                by_cases e : j = k
                · subst e
                  rintro ⟨a1, a2⟩
                  rw [HLO.out] at a1
                  rw [HHI.out] at a2
                  omega
                · exact HN.out j (by omega)
              case measure => omega
          · go_wp2
            go_roundg k1
            case rel =>
              refine ⟨k + 1, by simp, by omega, hb.alloc hb.size _, Lib.hid (fun j hj => ?_)⟩
              by_cases e : j = k
              · subst e
                rintro ⟨a1, a2⟩
                rw [HLO.out] at a1
                rw [HHI.out] at a2
                omega
              · exact HN.out j (by omega)
            case measure => omega
end Go.Proofs.YtokmmkeoodgodaaGreatDoor
