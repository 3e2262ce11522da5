/-
  runes.Fold AT EVERY TEXT up to 2^28 bytes, under the two tables of unicode/utf8: it hands back the folded text.
-/
import Derived.Test.YtokmmkeoodgodaaGreatDoorRuRepl
import Derived.Test.YtokmmkeoodgodaaGreatDoorRuPlain
import Derived.Test.YtokmmkeoodgodaaGreatDoorWGuard
namespace Go.Proofs.YtokmmkeoodgodaaGreatDoor
open Go.RowKit Go.Lib Go.Proofs.YtokmmkeoodgodaaGreatDoorW.PrintWords Go.Proofs.YtokmmkeoodgodaaGreatDoorW.PrintMore
set_option linter.unusedSimpArgs false
set_option linter.unusedVariables false

theorem spaceN_iff (x : Nat) : Ru.spaceN x = decide (x = 9 ∨ x = 10 ∨ x = 12 ∨ x = 13 ∨ x = 32 ∨ x = 160 ∨ x = 5760 ∨ x = 8239 ∨ x = 8287 ∨ x = 12288 ∨ (8192 ≤ x ∧ x ≤ 8202)) := by
  unfold Ru.spaceN
  rw [Bool.eq_iff_iff]
  simp only [Bool.or_eq_true, Bool.and_eq_true, beq_iff_eq, decide_eq_true_eq, or_assoc]

set_option maxHeartbeats 4000000 in
set_option maxRecDepth 1000000 in
theorem space_at (x : Nat) (hx : x ≤ 1114111) (w : World) : Calls Tryz.prog 13 #[.int .i32 x] w fun e w' => e = .returned (.bool (Ru.spaceN x)) ∧ w' = w := by
  obtain ⟨R, hR⟩ : ∃ R, Ru.spaceN x = R := ⟨_, rfl⟩
  rw [hR]
  have HR := Lib.hid hR
  clear hR
  go_enter Tryz.func13, Tryz.ntmps13
  go_wp2
  all_goals go_ret
  all_goals refine ⟨?_, rfl⟩
  all_goals rw [← HR.out, spaceN_iff]
  all_goals simp only [beq_iff_eq, beq_eq_false_iff_ne, decide_eq_true_eq, decide_eq_false_iff_not] at *
  all_goals refine congrArg (fun b => Ending.returned (Value.bool b)) ?_
  all_goals first | exact (decide_eq_true (by omega)).symm | exact (decide_eq_false (by omega)).symm | exact decide_eq_decide.2 (by omega)

set_option maxHeartbeats 4000000 in
set_option maxRecDepth 1000000 in
theorem small_at (x : Nat) (hx : x ≤ 1114111) (w : World) : Calls Tryz.prog 25 #[.int .i32 x] w fun e w' => e = .returned (.int .i32 (Ru.smallI x)) ∧ w' = w := by
  obtain ⟨R, hR⟩ : ∃ R, Ru.smallI x = R := ⟨_, rfl⟩
  rw [hR]
  have HR := Lib.hid hR
  clear hR
  go_enter Tryz.func25, Tryz.ntmps25
  go_wp2
  all_goals go_ret
  all_goals refine ⟨?_, rfl⟩
  all_goals rw [← HR.out]
  all_goals simp only [bne_iff_ne, bne_eq_false_iff_eq] at *
  all_goals refine congrArg (fun b => Ending.returned (Value.int .i32 b)) ?_
  all_goals (unfold Ru.smallI Ru.smallN; rw [if_pos (by omega), Int.toNat_natCast])
  all_goals (repeat' split)
  all_goals omega

theorem smallI_le (x : Nat) (hx : x ≤ 1114111) : -2147483648 ≤ Ru.smallI x ∧ Ru.smallI x ≤ 2147483647 := by
  unfold Ru.smallI Ru.smallN
  rw [if_pos (by omega), Int.toNat_natCast]
  repeat' split
  all_goals omega

theorem four_cells (w : World) :
    (w.alloc (.cells #[.string ⟨#[195, 159]⟩, .string ⟨#[115, 115]⟩, .string ⟨#[225, 186, 158]⟩, .string ⟨#[115, 115]⟩] 9)).cell? ⟨w.heap.size, 0, none⟩ = some (.string ⟨#[195, 159]⟩) ∧
    (w.alloc (.cells #[.string ⟨#[195, 159]⟩, .string ⟨#[115, 115]⟩, .string ⟨#[225, 186, 158]⟩, .string ⟨#[115, 115]⟩] 9)).cell? ⟨w.heap.size, 1, none⟩ = some (.string ⟨#[115, 115]⟩) ∧
    (w.alloc (.cells #[.string ⟨#[195, 159]⟩, .string ⟨#[115, 115]⟩, .string ⟨#[225, 186, 158]⟩, .string ⟨#[115, 115]⟩] 9)).cell? ⟨w.heap.size, 2, none⟩ = some (.string ⟨#[225, 186, 158]⟩) ∧
    (w.alloc (.cells #[.string ⟨#[195, 159]⟩, .string ⟨#[115, 115]⟩, .string ⟨#[225, 186, 158]⟩, .string ⟨#[115, 115]⟩] 9)).cell? ⟨w.heap.size, 3, none⟩ = some (.string ⟨#[115, 115]⟩) := by
  have h := heap_alloc_new w (.cells #[.string ⟨#[195, 159]⟩, .string ⟨#[115, 115]⟩, .string ⟨#[225, 186, 158]⟩, .string ⟨#[115, 115]⟩] 9)
  refine ⟨?_, ?_, ?_, ?_⟩
  all_goals (rw [Lib.cell_of_heap h]; rfl)

set_option maxHeartbeats 4000000 in
set_option maxRecDepth 1000000 in
theorem fold_any (s : ByteArray) (w : World) (hs : s.size ≤ 67108864) (hT : TT w) :
    Calls Tryz.prog 10 #[.string s] w fun e w' => e = .returned (.string (str8 (Ru.foldL s.data.toList))) ∧ Below w.heap.size w w' := by
  have hP : PredGrows Tryz.prog 13 #[] Ru.spaceN w := fun W x hx _ => (space_at x hx W).mono fun e w' ⟨h1, h2⟩ => ⟨h1, h2 ▸ Below.refl _ _⟩
  have hFF := Tryz.strings_FieldsFunc_grows 13 #[] (fun args w => enters_of Tryz.func13 (by kernel_rfl) rfl args w) Ru.spaceN s w (by omega) hP
  have hSM : ∀ W, Below w.heap.size w W → MapGrows Tryz.prog 25 #[] Ru.smallI W := fun _ _ W x hx _ => (small_at x hx W).mono fun e w' ⟨h1, h2⟩ => ⟨h1, h2 ▸ Below.refl _ _⟩
  have HSM := Lib.hid hSM
  clear hSM hP
  obtain ⟨J, hJ⟩ : ∃ J, (⟨(Lib.join ((goFieldsP Ru.spaceN s).map (·.data.toList)) [32]).toArray⟩ : ByteArray) = J := ⟨_, rfl⟩
  have hJl : J.data.toList = Lib.join ((goFieldsP Ru.spaceN s).map (·.data.toList)) [32] := by rw [← hJ]
  have hJz : J.size ≤ 268435456 := by
    have := Ru.join_len s
    rw [← hJl, Ru.size_list] at this; omega
  obtain ⟨M, hM⟩ : ∃ M, (⟨(Lib.mapD Ru.smallI J.data.toList).toArray⟩ : ByteArray) = M := ⟨_, rfl⟩
  have hMl : M.data.toList = Lib.mapD Ru.smallI J.data.toList := by rw [← hM]
  have hMz : M.size ≤ 268435456 := by
    have := Ru.mapd_len s
    rw [← hJl, ← hMl, Ru.size_list] at this; omega
  have hRes : Ru.replL M.data.toList = Ru.foldL s.data.toList := by rw [hMl, hJl]; exact Ru.fold_pipe s
  have hJc : (Lib.join ((goFieldsP Ru.spaceN s).map (·.data.toList)) (⟨#[32]⟩ : ByteArray).data.toList).length ≤ 140737488355328 := by
    have h1 : (⟨#[32]⟩ : ByteArray).data.toList = [32] := rfl
    rw [h1, ← hJl, Ru.size_list]; omega
  have hFl := Ru.fields_len s
  have HJC := Lib.hid hJc
  have HRes := Lib.hid hRes
  have HJ := Lib.hid hJ
  have HM := Lib.hid hM
  have HT := Lib.hid hT
  rw [← hRes]
  clear hJc hJl hMl hRes hT hJ hM
  generalize goFieldsP Ru.spaceN s = xs at *
  go_enter Tryz.func10, Tryz.ntmps10
  go_wp2_with (first
    | (go_at_call 23; refine hFF.mono ?_; rintro e w1 ⟨A, rfl, hA, hown, hb1⟩)
    | (go_at_call 26; refine (Tryz.strings_Join A 0 xs.length xs ⟨#[32]⟩ w1 (fun j x hj => by have := hown.cells rfl j (.string x) (by rw [List.getElem?_map, hj]; rfl); rwa [Addr.add_lit] at this) (hown.lt A rfl).2 (by omega) (Nat.le_refl _) HJC.out).mono ?_; rintro e w2 ⟨he2, hb2⟩; rw [show (⟨#[32]⟩ : ByteArray).data.toList = [32] from rfl, HJ.out] at he2; subst he2; have hbb2 := hb1.trans (hb2.mono hb1.size))
    | (go_at_call 24; refine (Tryz.strings_Map_grows 25 #[] (fun args w => enters_of Tryz.func25 (by kernel_rfl) rfl args w) Ru.smallI J w2 (by omega) (HSM.out w2 hbb2) (fun x hx => smallI_le x hx) (HT.out.of hbb2)).mono ?_; rintro e w3 ⟨he3, hb3⟩; rw [HM.out] at he3; subst he3; have hbb3 := hbb2.trans (hb3.mono hbb2.size); have N0 := four_cells w3)
    | (go_at_call 27; refine (new_rep w3.heap.size 4 _ N0.1 N0.2.1 N0.2.2.1 N0.2.2.2).mono ?_; rintro e w4 ⟨b, rfl, hRep, hge, hb4⟩; have hsz := World.size_alloc w3 (.cells #[.string ⟨#[195, 159]⟩, .string ⟨#[115, 115]⟩, .string ⟨#[225, 186, 158]⟩, .string ⟨#[115, 115]⟩] 9); have hbb4 := (hbb3.alloc hbb3.size (.cells #[.string ⟨#[195, 159]⟩, .string ⟨#[115, 115]⟩, .string ⟨#[225, 186, 158]⟩, .string ⟨#[115, 115]⟩] 9)).trans (hb4.mono (by rw [hsz]; have := hbb3.size; omega)))
    | (go_at_call 28; refine (replace_any b w.heap.size M w4 hRep (by have := hbb3.size; omega) hMz).mono ?_; rintro e w5 ⟨rfl, hb5⟩))
  go_ret
  exact ⟨rfl, hbb4.trans hb5⟩
end Go.Proofs.YtokmmkeoodgodaaGreatDoor
