/-
  THE PURE HALF of scriptoriumref01.Put: a character's bytes.
-/
import Derived.Test.YtokmmkeoodgodaaGreatDoorRuDefs
import Derived.Test.YtokmmkeoodgodaaGreatDoorRuCleanW
import Derived.Test.YtokmmkeoodgodaaGreatDoorPr1
namespace Go.Proofs.YtokmmkeoodgodaaGreatDoor
open Go.RowKit Go.Proofs.YtokmmkeoodgodaaGreatDoorW.PrintWords Pr
set_option linter.unusedSimpArgs false
set_option linter.unusedVariables false

theorem nums_str8 (l : List Int) : strOfNums l = str8 (bytes8 l) := by
  have := strOf_list l
  rw [← this]
  exact (list_str _).symm
theorem u8c (z : Int) (m : Nat) (h : z = m) : z.toNat.toUInt8 = m.toUInt8 := by rw [h, Int.toNat_natCast]

theorem u8w (z : Int) (m : Nat) (h : z = m) (hm : m < 256) : (wrap64 z % 256).toNat.toUInt8 = m.toUInt8 := by
  have : wrap64 z % 256 = m := by unfold wrap64; omega
  exact u8c _ _ this
theorem put_f (n : Nat) (h : n < 2097152) : scriptoriumref01_Put.f n = some (str8 (Ru.enc n)) := by
  have h0 : (0 : Int) ≤ (n : Int) := by omega
  have d1 : wrap64 ((n : Int) / 64) = (n : Int) / 64 := by unfold wrap64; omega
  have d2 : wrap64 ((n : Int) / 4096) = (n : Int) / 4096 := by unfold wrap64; omega
  have d3 : wrap64 ((n : Int) / 262144) = (n : Int) / 262144 := by unfold wrap64; omega
  have m1 : Int.tmod ((n : Int) / 64) 64 = (n : Int) / 64 % 64 := Int.tmod_eq_emod_of_nonneg (by omega)
  have m2 : Int.tmod ((n : Int) / 4096) 64 = (n : Int) / 4096 % 64 := Int.tmod_eq_emod_of_nonneg (by omega)
  have m0 : Int.tmod (n : Int) 64 = (n : Int) % 64 := Int.tmod_eq_emod_of_nonneg h0
  unfold scriptoriumref01_Put.f Ru.enc
  simp only [Int.tdiv_eq_ediv_of_nonneg h0, d1, d2, d3, m0, m1, m2, nums_str8]
  clear d1 d2 d3 m0 m1 m2
  by_cases h1 : n < 128
  · rw [if_pos (by omega), if_pos h1]
    simp only [bytes8, List.map_cons, List.map_nil]
    rw [u8c _ n (by omega)]
  rw [if_neg (by omega), if_neg h1]
  by_cases h2 : n < 2048
  · rw [if_pos (by omega), if_pos h2]
    simp only [bytes8, List.map_cons, List.map_nil]
    rw [u8w _ (192 + n / 64) (by omega) (by omega), u8w _ (128 + n % 64) (by omega) (by omega)]
  rw [if_neg (by omega), if_neg h2]
  by_cases h3 : n < 65536
  · rw [if_pos (by omega), if_pos h3]
    simp only [bytes8, List.map_cons, List.map_nil]
    rw [u8w _ (224 + n / 4096) (by omega) (by omega), u8w _ (128 + n / 64 % 64) (by omega) (by omega), u8w _ (128 + n % 64) (by omega) (by omega)]
  rw [if_neg (by omega), if_neg h3]
  simp only [bytes8, List.map_cons, List.map_nil]
  rw [u8w _ (240 + n / 262144) (by omega) (by omega), u8w _ (128 + n / 4096 % 64) (by omega) (by omega), u8w _ (128 + n / 64 % 64) (by omega) (by omega), u8w _ (128 + n % 64) (by omega) (by omega)]
end Go.Proofs.YtokmmkeoodgodaaGreatDoor
