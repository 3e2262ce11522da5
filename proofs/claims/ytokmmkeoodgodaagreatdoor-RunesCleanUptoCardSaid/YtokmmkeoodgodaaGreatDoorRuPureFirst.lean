/-
  THE PURE HALF of scriptoriumref01.First, Clean, Fold, Space, Mark, Punct.
-/
import Derived.Test.YtokmmkeoodgodaaGreatDoorRuPurePut
import Derived.Test.YtokmmkeoodgodaaGreatDoorPr1
import Derived.Test.YtokmmkeoodgodaaGreatDoorPr1
import Derived.Test.YtokmmkeoodgodaaGreatDoorRuGiven
namespace Go.Proofs.YtokmmkeoodgodaaGreatDoor
open Go.RowKit Go.Proofs.YtokmmkeoodgodaaGreatDoorW.PrintWords Pr
set_option linter.unusedSimpArgs false
set_option linter.unusedVariables false

theorem bt_getD (s : ByteArray) (i : Nat) : bt s (i : Int) = (((s.data.toList.getD i 0).toNat : Nat) : Int) := by
  unfold bt
  rw [Int.toNat_natCast, List.getD_eq_getElem?_getD]
  by_cases hi : i < s.size
  · rw [dif_pos hi, List.getElem?_eq_getElem (by rw [Ru.size_list]; exact hi)]; rfl
  · rw [dif_neg hi, List.getElem?_eq_none (by rw [Ru.size_list]; omega)]; rfl

theorem w_in (z : Int) (h : -9223372036854775808 ≤ z) (h' : z ≤ 9223372036854775807) : wrap64 z = z := by unfold wrap64; omega
theorem tail_f (x : Nat) (h : x < 256) : scriptoriumref01_tail.f (x : Int) = some (decide (x / 64 = 2)) := by
  unfold scriptoriumref01_tail.f
  by_cases h1 : 128 ≤ x
  · rw [if_pos (by omega)]
    exact congrArg some (decide_eq_decide.2 (by omega))
  · rw [if_neg (by omega)]
    exact congrArg some (decide_eq_false (by omega)).symm

/-- what is told at the end of a character -/
def fin (n r least : Nat) : Int × Int := if Ru.gd least r then ((r : Int), (n : Int)) else (65533, 1)

theorem first_end (k : Nat) (s : ByteArray) (n r least : Nat) : scriptoriumref01_First.l0 (k + 1) s n r least n = some (fin n r least) := by
  simp only [scriptoriumref01_First.l0]
  rw [if_neg (by omega)]
  unfold fin
  by_cases h1 : r < least
  · rw [if_pos (by omega), if_neg (by unfold Ru.gd; omega)]
  rw [if_neg (by omega)]
  by_cases h2 : 55296 ≤ r
  · rw [if_pos (by omega)]
    by_cases h3 : r ≤ 57343
    · rw [if_pos (by omega), if_neg (by unfold Ru.gd; omega)]
    rw [if_neg (by omega)]
    by_cases h4 : 1114111 < r
    · rw [if_pos (by omega), if_neg (by unfold Ru.gd; omega)]
    · rw [if_neg (by omega), if_pos (by unfold Ru.gd; omega)]
  · rw [if_neg (by omega), if_neg (by omega), if_pos (by unfold Ru.gd; omega)]

theorem first_step (k : Nat) (s : ByteArray) (n r least i b : Nat) (hb : (s.data.toList.getD i 0).toNat = b) (hi : i < n) (hn : n ≤ s.size) (hr : r < 1048576) (hs : s.size ≤ 4611686018427387904) :
    scriptoriumref01_First.l0 (k + 1) s n r least i = if b / 64 = 2 then scriptoriumref01_First.l0 k s n ((64 * r + b - 128 : Nat) : Int) least ((i + 1 : Nat) : Int) else some (65533, 1) := by
  have hb2 : b < 256 := by rw [← hb]; exact UInt8.toNat_lt _
  simp only [scriptoriumref01_First.l0]
  rw [if_pos (by omega), if_pos (by omega), if_pos (by omega), bt_getD, hb, tail_f b hb2, Option.bind_some]
  by_cases h : b / 64 = 2
  · rw [if_pos (decide_eq_true h), if_pos h]
    have e1 : wrap64 ((wrap64 ((wrap64 (64 * (r : Int))) + (wrap64 (b : Int)))) - 128) = ((64 * r + b - 128 : Nat) : Int) := by
      rw [w_in (64 * (r : Int)) (by omega) (by omega), w_in (b : Int) (by omega) (by omega), w_in (64 * (r : Int) + (b : Int)) (by omega) (by omega), w_in (64 * (r : Int) + (b : Int) - 128) (by omega) (by omega)]
      omega
    have e2 : wrap64 ((i : Int) + 1) = ((i + 1 : Nat) : Int) := by rw [w_in _ (by omega) (by omega)]; omega
    rw [e1, e2]
  · rw [if_neg (by rw [decide_eq_false h]; decide), if_neg h]

theorem first_j2 (k : Nat) (s : ByteArray) (n r least : Nat) : scriptoriumref01_First.j2 (k + 1) s n r least = if s.size < n then some (65533, 1) else scriptoriumref01_First.l0 k s n r least 1 := by
  simp only [scriptoriumref01_First.j2]
  by_cases h : s.size < n
  · rw [if_pos (by omega), if_pos h]
  · rw [if_neg (by omega), if_neg h]

set_option maxRecDepth 100000 in
theorem first_j0 (k : Nat) (s : ByteArray) (b : Nat) (hb : b < 256) (h1 : 128 ≤ b) : scriptoriumref01_First.j0 (k + 2) s b (decide (194 ≤ b ∧ b < 224)) =
    if 194 ≤ b ∧ b < 224 then scriptoriumref01_First.j2 (k + 1) s ((2 : Nat) : Int) ((b - 192 : Nat) : Int) ((128 : Nat) : Int) else if 224 ≤ b ∧ b < 240 then scriptoriumref01_First.j2 k s ((3 : Nat) : Int) ((b - 224 : Nat) : Int) ((2048 : Nat) : Int)
    else if 240 ≤ b ∧ b < 245 then scriptoriumref01_First.j2 k s ((4 : Nat) : Int) ((b - 240 : Nat) : Int) ((65536 : Nat) : Int) else some (65533, 1) := by
  have w1 : 192 ≤ b → wrap64 ((b : Int) - 192) = ((b - 192 : Nat) : Int) := fun h => by rw [w_in _ (by omega) (by omega)]; omega
  have w2 : 224 ≤ b → wrap64 ((b : Int) - 224) = ((b - 224 : Nat) : Int) := fun h => by rw [w_in _ (by omega) (by omega)]; omega
  have w3 : 240 ≤ b → wrap64 ((b : Int) - 240) = ((b - 240 : Nat) : Int) := fun h => by rw [w_in _ (by omega) (by omega)]; omega
  simp only [scriptoriumref01_First.j0, scriptoriumref01_First.j1]
  by_cases c1 : 194 ≤ b ∧ b < 224
  · rw [if_pos (decide_eq_true c1), if_pos c1, w1 (by omega)]; rfl
  rw [if_neg (by rw [decide_eq_false c1]; decide), if_neg c1]
  by_cases c2 : 224 ≤ b ∧ b < 240
  · rw [if_pos (by omega), if_pos (decide_eq_true (by omega)), if_pos c2, w2 (by omega)]; rfl
  rw [if_neg c2]
  by_cases c3 : 240 ≤ b
  · rw [if_pos (by omega), if_neg (by rw [decide_eq_false (by omega)]; decide), if_pos (by omega)]
    by_cases c4 : b < 245
    · rw [if_pos (by omega), if_pos ⟨c3, c4⟩, w3 (by omega)]; rfl
    · rw [if_neg (by omega), if_neg (by omega)]
  · rw [if_neg (by omega), if_neg (by decide), if_neg (by omega), if_neg (by omega)]

def pairI (p : Nat × Nat) : Int × Int := ((p.1 : Int), (p.2 : Int))

theorem first_f (k : Nat) (s : ByteArray) (h0 : s.size ≠ 0) (hs : s.size ≤ 4611686018427387904) : scriptoriumref01_First.f (k + 8) s = some (pairI (Ru.dec s.data.toList)) := by
  unfold scriptoriumref01_First.f Ru.dec
  rw [Ru.size_list]
  have hbt := bt_getD s 0
  obtain ⟨b0, hb0⟩ : ∃ b, (s.data.toList.getD 0 0).toNat = b := ⟨_, rfl⟩
  obtain ⟨b1, hb1⟩ : ∃ b, (s.data.toList.getD 1 0).toNat = b := ⟨_, rfl⟩
  obtain ⟨b2, hb2⟩ : ∃ b, (s.data.toList.getD 2 0).toNat = b := ⟨_, rfl⟩
  obtain ⟨b3, hb3⟩ : ∃ b, (s.data.toList.getD 3 0).toNat = b := ⟨_, rfl⟩
  have l0 : b0 < 256 := by rw [← hb0]; exact UInt8.toNat_lt _
  rw [hb0] at hbt
  rw [hb0, hb1, hb2, hb3]
  have hw : wrap64 (bt s 0) = (b0 : Int) := by
    have hbt' : bt s 0 = (b0 : Int) := hbt
    rw [hbt', w_in _ (by omega) (by omega)]
  rw [if_pos (by omega), hw]
  by_cases a1 : b0 < 128
  · rw [if_pos (by omega), Ru.dN_ascii _ _ _ _ _ a1]; rfl
  rw [if_neg (by omega)]
  have hj := first_j0 (k + 6) s b0 l0 (by omega)
  have hd : (if (b0 : Int) ≥ 194 then scriptoriumref01_First.j0 (k + 8) s b0 (decide ((b0 : Int) < 224)) else scriptoriumref01_First.j0 (k + 8) s b0 false) = scriptoriumref01_First.j0 (k + 8) s b0 (decide (194 ≤ b0 ∧ b0 < 224)) := by
    by_cases h : 194 ≤ b0
    · rw [if_pos (by omega)]
      exact congrArg _ (decide_eq_decide.2 (by omega))
    · rw [if_neg (by omega)]
      exact congrArg _ (decide_eq_false (by omega)).symm
  rw [hd, hj]
  by_cases c2 : 194 ≤ b0 ∧ b0 < 224
  · rw [if_pos c2, first_j2, Ru.dN_2 _ _ _ _ _ (by omega)]
    by_cases n1 : s.size < 2
    · rw [if_pos n1, if_neg (by omega)]; rfl
    rw [if_neg n1]
    have e1 := first_step (k + 5) s 2 (b0 - 192) 128 1 b1 hb1 (by omega) (by omega) (by omega) hs
    have e1' : scriptoriumref01_First.l0 (k + 6) s ((2 : Nat) : Int) ((b0 - 192 : Nat) : Int) ((128 : Nat) : Int) 1 = _ := e1
    rw [e1']
    by_cases t1 : b1 / 64 = 2
    · rw [if_pos t1]
      have e2 := first_end (k + 4) s 2 (64 * (b0 - 192) + b1 - 128) 128
      refine e2.trans (congrArg some ?_)
      unfold fin
      have hg : 64 * (b0 - 192) + b1 - 128 = Ru.g2 b0 b1 := by unfold Ru.g2; omega
      rw [hg]
      have hg2 : Ru.g2 b0 b1 < 55296 := by unfold Ru.g2; omega
      by_cases q : 128 ≤ Ru.g2 b0 b1
      · rw [if_pos ⟨q, .inl hg2⟩, if_pos ⟨⟨by omega, t1⟩, q⟩]; rfl
      · rw [if_neg (by unfold Ru.gd; omega), if_neg (by omega)]; rfl
    · rw [if_neg t1, if_neg (by omega)]; rfl
  rw [if_neg c2]
  by_cases c3 : 224 ≤ b0 ∧ b0 < 240
  · rw [if_pos c3, first_j2, Ru.dN_3 _ _ _ _ _ (by omega)]
    by_cases n1 : s.size < 3
    · rw [if_pos n1, if_neg (by omega)]; rfl
    rw [if_neg n1]
    have e1 := first_step (k + 4) s 3 (b0 - 224) 2048 1 b1 hb1 (by omega) (by omega) (by omega) hs
    have e1' : scriptoriumref01_First.l0 (k + 5) s ((3 : Nat) : Int) ((b0 - 224 : Nat) : Int) ((2048 : Nat) : Int) 1 = _ := e1
    rw [e1']
    by_cases t1 : b1 / 64 = 2
    · have e2 := first_step (k + 3) s 3 (64 * (b0 - 224) + b1 - 128) 2048 2 b2 hb2 (by omega) (by omega) (by omega) hs
      rw [if_pos t1, e2]
      by_cases t2 : b2 / 64 = 2
      · rw [if_pos t2]
        have e3 := first_end (k + 2) s 3 (64 * (64 * (b0 - 224) + b1 - 128) + b2 - 128) 2048
        refine e3.trans (congrArg some ?_)
        unfold fin
        have hg : 64 * (64 * (b0 - 224) + b1 - 128) + b2 - 128 = Ru.g3 b0 b1 b2 := by unfold Ru.g3; omega
        rw [hg]
        by_cases q : Ru.gd 2048 (Ru.g3 b0 b1 b2)
        · rw [if_pos q, if_pos ⟨⟨⟨by omega, t1⟩, ⟨by omega, t2⟩⟩, q⟩]; rfl
        · rw [if_neg q, if_neg (fun x => q x.2)]; rfl
      · rw [if_neg t2, if_neg (fun x => t2 x.1.2.2)]; rfl
    · rw [if_neg t1, if_neg (fun x => t1 x.1.1.2)]; rfl
  rw [if_neg c3]
  by_cases c4 : 240 ≤ b0 ∧ b0 < 245
  · rw [if_pos c4, first_j2, Ru.dN_4 _ _ _ _ _ (by omega)]
    by_cases n1 : s.size < 4
    · rw [if_pos n1, if_neg (by omega)]; rfl
    rw [if_neg n1]
    have e1 := first_step (k + 4) s 4 (b0 - 240) 65536 1 b1 hb1 (by omega) (by omega) (by omega) hs
    have e1' : scriptoriumref01_First.l0 (k + 5) s ((4 : Nat) : Int) ((b0 - 240 : Nat) : Int) ((65536 : Nat) : Int) 1 = _ := e1
    rw [e1']
    by_cases t1 : b1 / 64 = 2
    · have e2 := first_step (k + 3) s 4 (64 * (b0 - 240) + b1 - 128) 65536 2 b2 hb2 (by omega) (by omega) (by omega) hs
      rw [if_pos t1, e2]
      by_cases t2 : b2 / 64 = 2
      · have e3 := first_step (k + 2) s 4 (64 * (64 * (b0 - 240) + b1 - 128) + b2 - 128) 65536 3 b3 hb3 (by omega) (by omega) (by omega) hs
        rw [if_pos t2, e3]
        by_cases t3 : b3 / 64 = 2
        · rw [if_pos t3]
          have e4 := first_end (k + 1) s 4 (64 * (64 * (64 * (b0 - 240) + b1 - 128) + b2 - 128) + b3 - 128) 65536
          refine e4.trans (congrArg some ?_)
          unfold fin
          have hg : 64 * (64 * (64 * (b0 - 240) + b1 - 128) + b2 - 128) + b3 - 128 = Ru.g4 b0 b1 b2 b3 := by unfold Ru.g4; omega
          rw [hg]
          by_cases q : Ru.gd 65536 (Ru.g4 b0 b1 b2 b3)
          · rw [if_pos q, if_pos ⟨⟨⟨by omega, t1⟩, ⟨by omega, t2⟩, ⟨by omega, t3⟩⟩, q⟩]; rfl
          · rw [if_neg q, if_neg (fun x => q x.2)]; rfl
        · rw [if_neg t3, if_neg (fun x => t3 x.1.2.2.2)]; rfl
      · rw [if_neg t2, if_neg (fun x => t2 x.1.2.1.2)]; rfl
    · rw [if_neg t1, if_neg (fun x => t1 x.1.1.2)]; rfl
  rw [if_neg c4]
  by_cases k2 : b0 / 32 = 6
  · rw [Ru.dN_2 _ _ _ _ _ k2, if_neg (by unfold Ru.g2; omega)]; rfl
  by_cases k4 : b0 / 8 = 30
  · rw [Ru.dN_4 _ _ _ _ _ k4, if_neg (by unfold Ru.gd Ru.g4; omega)]; rfl
  · rw [Ru.dN_bad _ _ _ _ _ ⟨by omega, k2, by omega, k4⟩]; rfl
end Go.Proofs.YtokmmkeoodgodaaGreatDoor
