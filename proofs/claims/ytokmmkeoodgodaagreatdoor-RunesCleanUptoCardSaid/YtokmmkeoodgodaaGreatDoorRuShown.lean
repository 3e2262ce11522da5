/-
  'shown' of the laws: what must be in any case: it is true.
-/
import Derived.Test.YtokmmkeoodgodaaGreatDoorRuGiven
import Derived.Lib.SlBytesConst
namespace Go.Proofs.YtokmmkeoodgodaaGreatDoor
open Go.RowKit Go.Lib Go.Proofs.YtokmmkeoodgodaaGreatDoorW.PrintWords Go.Proofs.YtokmmkeoodgodaaGreatDoorW.PrintMore

/-- a new row of bytes, whatever its mark -/
theorem bytes_row (w : World) (l : List Int) (fr : Nat × Nat) (hl : l.length ≤ 1000) : Kd.C (Kd.int .u8) (w.alloc (.cells (l.map (Value.int .u8)).toArray 5 fr)) (some ⟨w.heap.size, 0, none⟩) l.length l := by
  refine Kd.C_of_reads (d := (0 : Int)) (h1 := fun _ => rfl) ⟨rfl, by omega, fun _ => ⟨_, rfl, fun j hj => ?_⟩⟩
  rw [Addr.add_lit, Nat.zero_add, World.cell?_alloc_mark]
  simp [hj]

theorem shown_L : (Ru.linesL (⟨#[97, 13, 10, 98, 10, 10, 99, 13]⟩ : ByteArray).data.toList).map str8 = [⟨#[97]⟩, ⟨#[98]⟩, ⟨#[]⟩, ⟨#[99]⟩] := by kernel_rfl
theorem shown_C : str8 (Ru.cleanL (bytes8 [97, 0, 228, 195, 164])) = ⟨#[97, 239, 191, 189, 239, 191, 189, 195, 164]⟩ := by kernel_rfl
theorem shown_F : str8 (Ru.foldL [32, 65, 9, 10, 66, 32]) = ⟨#[97, 32, 98]⟩ := by kernel_rfl
theorem shown_S : spaceI 12288 = true := by kernel_rfl
theorem shown_M : Ru.markN 126 = true := by kernel_rfl

set_option maxHeartbeats 4000000 in
set_option maxRecDepth 1000000 in
theorem shown_calls (w : World) (hT : TT w) : Calls Tryz.prog 6 #[] w fun e w' => e = .returned (.bool true) ∧ Below w.heap.size w w' := by
  have hL := lines_any ⟨#[97, 13, 10, 98, 10, 10, 99, 13]⟩ (by decide) w
  rw [shown_L] at hL
  have hcv := fun (w : World) (C : Array Value) (n c : Nat) => run_convert_bytes_const (P := Tryz.prog) w 22 5 C n c Tryz.underlying22 Tryz.underlying5
  have hC := fun w1 : World => clean_any (some ⟨w1.heap.size, 0, none⟩) 5 [97, 0, 228, 195, 164] _ (bytes_row w1 [97, 0, 228, 195, 164] (5, 6) (by decide)) (by decide)
  simp only [shown_C] at hC
  have hF : ∀ (w1 : World), TT w1 → Calls Tryz.prog 10 #[.string ⟨#[32, 65, 9, 10, 66, 32]⟩] w1 fun e w' => e = .returned (.string ⟨#[97, 32, 98]⟩) ∧ Below w1.heap.size w1 w' := by
    intro w1 h1
    have := fold_any ⟨#[32, 65, 9, 10, 66, 32]⟩ w1 (by decide) h1
    rw [show (⟨#[32, 65, 9, 10, 66, 32]⟩ : ByteArray).data.toList = [32, 65, 9, 10, 66, 32] from rfl, shown_F] at this
    exact this
  have hS := fun w1 : World => space_all 12288 (by decide) (by decide) w1
  rw [shown_S] at hS
  have hM := fun w1 : World => mark_at 126 (by decide) w1
  rw [shown_M] at hM
  have HF := Lib.hid hF
  have HC := Lib.hid hC
  clear hF hC
  go_enter Tryz.func6, Tryz.ntmps6
  go_wp2_with fail
  refine hL.mono ?_
  rintro e w1 ⟨v0, rfl, ho, hb1⟩
  obtain ⟨g, c, rfl, _⟩ := Kd.R_form ho (by decide)
  have hr := (Kd.R_reads' ho).2.2
  obtain ⟨ad, he2, hc2⟩ := Kd.at_string hr 2 (by decide) (by decide)
  obtain ⟨ad', he3, hc3⟩ := Kd.at_string hr 3 (by decide) (by decide)
  obtain rfl := Option.some.inj he2
  obtain rfl := Option.some.inj he3
  rw [add_plain] at hc2 hc3
  have hT1 := hT.of hb1
  clear ho he2 he3 hr hL
  go_wp2_with fail
  refine (HC.out w1).mono ?_
  have hbA := hb1.alloc hb1.size (.cells (List.map (Value.int .u8) [97, 0, 228, 195, 164]).toArray 5 (5, 6))
  have hbS := (Below.refl w1.heap.size w1).alloc (Nat.le_refl _) (.cells (List.map (Value.int .u8) [97, 0, 228, 195, 164]).toArray 5 (5, 6))
  have gA := pw_cell_below hbS hc2
  have gB := pw_cell_below hbS hc3
  clear hc2 hc3 hbS
  generalize w1.alloc (.cells (List.map (Value.int .u8) [97, 0, 228, 195, 164]).toArray 5 (5, 6)) = w1' at *
  rintro e w2 ⟨rfl, hb2⟩
  have hb3 := hbA.trans (hb2.mono hbA.size)
  have hT2 := hT.of hb3
  have gA2 : w2.cell? ⟨g, 2, none⟩ = some (.string ⟨#[]⟩) := pw_cell_below hb2 gA
  have gB2 : w2.cell? ⟨g, 3, none⟩ = some (.string ⟨#[99]⟩) := pw_cell_below hb2 gB
  clear gA gB hbA hb1 hT hT1 HC hb2
  go_wp2_with fail
  refine (HF.out w2 hT2).mono ?_
  rintro e w3 ⟨rfl, hb4⟩
  clear gA2 gB2
  go_wp2_with fail
  refine (hS w3).mono ?_
  rintro e w3' ⟨rfl, rfl⟩
  go_wp2_with fail
  refine (hM _).mono ?_
  rintro e w3'' ⟨rfl, rfl⟩
  go_wp2_with fail
  go_ret
  exact ⟨rfl, hb3.trans (hb4.mono hb3.size)⟩
def Pr.scriptoriumlaw01_shown.f : Option Bool := some true
theorem Pr.scriptoriumlaw01_shown.calls (r : Bool) (w : World) (hT : TT w) (h : Pr.scriptoriumlaw01_shown.f = some r) :
    Calls Tryz.prog 6 #[] w fun e w' => e = .returned (.bool r) ∧ Below w.heap.size w w' := by
  rw [← Option.some.inj h]
  exact shown_calls w hT
end Go.Proofs.YtokmmkeoodgodaaGreatDoor
