/-
  RunesStays: any right characters, written one behind the other, stay as they are: the walk and what it rests on.
-/
import Derived.Test.YtokmmkeoodgodaaDoorRuConv
import Derived.Test.YtokmmkeoodgodaaDoorRuPurePut
import Derived.Test.YtokmmkeoodgodaaDoorRuLen
import Derived.Deep.QuietTactic
import Derived.BigQuiet
import Derived.Laws.BitsLemmas
namespace Go.Proofs.YtokmmkeoodgodaaDoor
open Go.RowKit Go.Lib Go.Proofs.YtokmmkeoodgodaaDoorW.PrintWords Go.Proofs.YtokmmkeoodgodaaDoorW.PrintMore
set_option linter.unusedSimpArgs false
set_option linter.unusedVariables false

theorem and21 (n : Int) : Go.bits .and .i64 n 2097151 = n % 2097152 := by
  have h127 : (BitVec.ofInt 64 2097151).toNat = 2 ^ 21 - 1 := by decide
  have key : (BitVec.ofInt 64 n &&& BitVec.ofInt 64 2097151).toNat = (n % ((2 ^ 64 : Nat) : Int)).toNat % 2 ^ 21 := by
    rw [BitVec.toNat_and, BitVec.toNat_ofInt, h127, Nat.and_two_pow_sub_one_eq_mod]
  show IntKind.i64.wrap ((BitVec.ofInt 64 n &&& BitVec.ofInt 64 2097151).toNat : Nat) = n % 2097152
  rw [key, IntKind.wrap_i64]
  omega

def staysN (x : Int) : Nat := (x % 2097152).toNat
def staysR (x : Int) : List Nat := if staysN x = 0 ∨ (55296 ≤ staysN x ∧ staysN x ≤ 57343) ∨ 1114111 < staysN x then [] else [staysN x]
def staysA (l : List Int) : List UInt8 := (l.flatMap staysR).flatMap Ru.enc

theorem staysR_ok (x : Int) : ∀ r ∈ staysR x, Ru.ok r ∧ r ≠ 0 := by
  intro r hr
  unfold staysR at hr
  split at hr
  · simp at hr
  · rename_i h
    obtain rfl := List.mem_singleton.1 hr
    unfold Ru.ok
    omega
theorem stays_clean (l : List Int) : Ru.cleanL (staysA l) = staysA l := by
  unfold staysA
  refine Ru.clean_stays _ ?_
  intro r hr
  obtain ⟨x, _, hx⟩ := List.mem_flatMap.1 hr
  exact staysR_ok x r hx
theorem staysA_snoc (l : List Int) (x : Int) : staysA (l ++ [x]) = staysA l ++ (staysR x).flatMap Ru.enc := by
  simp [staysA, List.flatMap_append]
theorem staysA_len : ∀ l : List Int, (staysA l).length ≤ 4 * l.length
  | [] => by simp [staysA]
  | x :: l => by
    have h : staysA (x :: l) = (staysR x).flatMap Ru.enc ++ staysA l := by simp [staysA]
    have hx : ((staysR x).flatMap Ru.enc).length ≤ 4 := by
      unfold staysR
      split
      · simp
      · simp only [List.flatMap_cons, List.flatMap_nil, List.append_nil]; exact Ru.enc_len _
    have := staysA_len l
    rw [h, List.length_append, List.length_cons]
    omega

theorem str8_append (a b : List UInt8) : str8 a ++ str8 b = str8 (a ++ b) := by
  apply ByteArray.ext
  rw [ByteArray.data_append]
  simp [str8]
theorem str8_size (l : List UInt8) : (str8 l).size = l.length := by rw [← Ru.size_list, str8_list]
theorem take_snoc_int (l : List Int) (k : Nat) (h : k < l.length) : l.take (k + 1) = l.take k ++ [rd l (k : Int)] := by
  rw [List.take_succ_eq_append_getElem h]
  unfold rd
  rw [Int.toNat_natCast, List.getD_eq_getElem?_getD, List.getElem?_eq_getElem h]
  rfl

set_option maxHeartbeats 4000000 in
set_option maxRecDepth 1000000 in
theorem stays_calls (A0 : Option Addr) (c0 : Nat) (l0 : List Int) (w : World) (hC : Kd.C (Kd.int .i64) w A0 l0.length l0) (hc : l0.length ≤ c0) (hT : TT w) :
    Calls Tryd.prog 5 #[.slice A0 l0.length c0] w fun e w' => e = .returned (.bool true) ∧ Below w.heap.size w w' := by
  have HSh := Lib.hid (shown_calls w hT)
  have hmax := Kd.C_max hC
  have hcv := fun (W : World) (s : ByteArray) => Go.Lib.run_convert_string_bytes (P := Tryd.prog) W 9 30 5 s Tryd.underlying9 Tryd.underlying30 Tryd.underlying5
  go_enter Tryd.func5, Tryd.ntmps5
  go_wp2_with fail
  refine HSh.out.mono ?_
  rintro e w1 ⟨rfl, hb1⟩
  go_wp2_with fail
  go_loopw [4, 5] (fun s i wr => ∃ k : Nat, k ≤ l0.length ∧ k ≤ 500 ∧ s = .string (str8 (staysA (l0.take k))) ∧ i = .int .i64 k ∧ Below w.heap.size w wr) (fun _ i _ => 500 - (intOf i).toNat)
  case atStart => exact ⟨0, Nat.zero_le _, by omega, rfl, rfl, hb1⟩
  case round =>
    obtain ⟨k, hk, hk5, rfl, rfl, hb⟩ := hrel
    by_cases hlt : k < l0.length ∧ k < 500
    · obtain ⟨h1, h2⟩ := hlt
      obtain ⟨ad, rfl, hcell⟩ := Kd.at_int (Kd.C_below hC hb) (k : Int) (by omega) (by omega)
      rw [Int.toNat_natCast] at hcell
      have hsn := Lib.hid (staysA_snoc (l0.take k) (rd l0 (k : Int)))
      have hts := Lib.hid (take_snoc_int l0 k h1)
      have hlen := staysA_len (l0.take k)
      have hlt2 : (l0.take k).length ≤ k := List.length_take_le _ _
      have hand := and21 (rd l0 (k : Int))
      have hRdef : staysR (rd l0 (k : Int)) = if staysN (rd l0 (k : Int)) = 0 ∨ (55296 ≤ staysN (rd l0 (k : Int)) ∧ staysN (rd l0 (k : Int)) ≤ 57343) ∨ 1114111 < staysN (rd l0 (k : Int)) then [] else [staysN (rd l0 (k : Int))] := rfl
      obtain ⟨m, hm⟩ : ∃ m, staysN (rd l0 (k : Int)) = m := ⟨_, rfl⟩
      have hm2 : rd l0 (k : Int) % 2097152 = (m : Int) := by unfold staysN at hm; omega
      have hm3 : m < 2097152 := by omega
      rw [hm2] at hand
      rw [hm] at hRdef
      generalize staysA (l0.take k) = acc at *
      clear hm hm2
      by_cases hbad : m = 0 ∨ (55296 ≤ m ∧ m ≤ 57343) ∨ 1114111 < m
      · rw [if_pos hbad] at hRdef
        rw [hRdef] at hsn
        have HR : staysA (l0.take (k + 1)) = acc := by rw [hts.out, hsn.out]; simp
        have HR := Lib.hid HR
        clear hRdef hsn hts
        go_wp2_with fail
        all_goals go_roundw
        all_goals first
          | exact ⟨k + 1, by omega, by omega, by rw [HR.out], by go_num, hb⟩
          | (simp [intOf]; omega)
      · rw [if_neg hbad] at hRdef
        rw [hRdef] at hsn
        have HR : staysA (l0.take (k + 1)) = acc ++ Ru.enc m := by rw [hts.out, hsn.out]; simp
        have HR := Lib.hid HR
        have HP := Lib.hid (fun W => Pr.scriptoriumref01_Put.calls (m : Int) _ W (put_f m hm3))
        have hz1 : (str8 acc).size ≤ 2000 := by rw [str8_size]; omega
        have hz2 : (str8 (Ru.enc m)).size ≤ 4 := by rw [str8_size]; exact Ru.enc_len m
        clear hRdef hsn hts
        have p0 : ((m : Int) == 0) = false := by rw [beq_eq_false_iff_ne]; omega
        go_wp2_with fail
        all_goals first
          | (exfalso; simp only [beq_iff_eq] at *; omega)
          | skip
        all_goals refine (HP.out _).mono ?_
        all_goals rintro e w2 ⟨rfl, hb2⟩
        all_goals go_wp2_with fail
        all_goals go_roundw
        all_goals first
          | exact ⟨k + 1, by omega, by omega, by rw [HR.out, str8_append], by go_num, hb.trans (hb2.mono hb.size)⟩
          | (simp [intOf]; omega)
    · have HF := Lib.hid (stays_clean (l0.take k))
      have hlen := staysA_len (l0.take k)
      have hlt2 : (l0.take k).length ≤ k := List.length_take_le _ _
      have hz1 : (str8 (staysA (l0.take k))).size ≤ 2000 := by rw [str8_size]; omega
      have HCl := Lib.hid (fun (W : World) (c : Nat) => clean_conv (str8 (staysA (l0.take k))) W c (by omega))
      rw [str8_list] at HCl
      generalize staysA (l0.take k) = acc at *
      rw [HF.out] at HCl
      generalize str8 acc = S at *
      go_wp2_with fail
      all_goals refine (HCl.out _ _).mono ?_
      all_goals rintro e w2 ⟨rfl, hb2⟩
      all_goals go_wp2_with fail
      all_goals go_ret
      all_goals exact ⟨rfl, hb.trans (hb2.mono hb.size)⟩
end Go.Proofs.YtokmmkeoodgodaaDoor
