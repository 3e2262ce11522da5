/- Lean functions for Go functions of the program, and proofs that the Go code comes to their answers. By a program (wip/pp/pp.py, round the kit's print). -/
import Derived.Test.YtokmmkeoodgodaaDoorPr0
namespace Go.Proofs.YtokmmkeoodgodaaDoor.Pr
open Go.RowKit Go.Proofs.YtokmmkeoodgodaaDoorW.PrintWords Go.Proofs.YtokmmkeoodgodaaDoorW.PrintLast Go.Proofs.YtokmmkeoodgodaaDoorW.PrintMore
attribute [local go_sem] max2_int min2_int max_two min_two max_three min_three max_four min_four   -- for this text's walks alone
set_option linter.unusedVariables false
set_option linter.unusedSimpArgs false

/-! ### scriptoriumlaw01_RunesJoin: function 4 -/
mutual
def scriptoriumlaw01_RunesJoin.l0 : Nat → List ByteArray → List Int → Bool → List ByteArray → ByteArray → Int → Option (Bool)
  | 0, _, _, _, _, _, _ => none
  | k + 1, x0, x1, x5, x6, x7, x8 => if x8 < (x0.length : Int) then (if x8 < (x1.length : Int) then (scriptoriumlaw01_RunesJoin.j1 k x0 x1 x5 x6 x7 x8 (decide (x8 < 50))) else (scriptoriumlaw01_RunesJoin.j1 k x0 x1 x5 x6 x7 x8 false)) else (scriptoriumlaw01_RunesJoin.j1 k x0 x1 x5 x6 x7 x8 false)
def scriptoriumlaw01_RunesJoin.j1 : Nat → List ByteArray → List Int → Bool → List ByteArray → ByteArray → Int → Bool → Option (Bool)
  | 0, _, _, _, _, _, _, _ => none
  | k + 1, x0, x1, x5, x6, x7, x8, x28 => if x28 = true then (scriptoriumlaw01_RunesJoin.l1 k x0 x1 x5 x6 x7 x8 (⟨#[]⟩ : ByteArray) 0) else ((runes_Lines.f x7).bind fun t134 => (if x5 = true then (scriptoriumlaw01_RunesJoin.j4 k x6 t134 ((t134.length : Int) != (x6.length : Int))) else (scriptoriumlaw01_RunesJoin.j4 k x6 t134 true)))
def scriptoriumlaw01_RunesJoin.l1 : Nat → List ByteArray → List Int → Bool → List ByteArray → ByteArray → Int → ByteArray → Int → Option (Bool)
  | 0, _, _, _, _, _, _, _, _ => none
  | k + 1, x0, x1, x5, x6, x7, x8, x9, x10 => if 0 ≤ x8 then (if x8 < (x0.length : Int) then (if x10 < ((rdOf ByteArray.empty x0 x8).size : Int) then (scriptoriumlaw01_RunesJoin.j3 k x0 x1 x5 x6 x7 x8 x9 x10 (decide (x10 < 200))) else (scriptoriumlaw01_RunesJoin.j3 k x0 x1 x5 x6 x7 x8 x9 x10 false)) else (none)) else (none)
def scriptoriumlaw01_RunesJoin.j3 : Nat → List ByteArray → List Int → Bool → List ByteArray → ByteArray → Int → ByteArray → Int → Bool → Option (Bool)
  | 0, _, _, _, _, _, _, _, _, _ => none
  | k + 1, x0, x1, x5, x6, x7, x8, x9, x10, x41 => if x41 = true then (if 0 ≤ x8 then (if x8 < (x0.length : Int) then (if 0 ≤ x10 then (if x10 < ((rdOf ByteArray.empty x0 x8).size : Int) then (if (bt (rdOf ByteArray.empty x0 x8) x10) = 10 then (scriptoriumlaw01_RunesJoin.l1 k x0 x1 x5 x6 x7 x8 x9 (wrap64 (x10 + 1))) else (if (bt (rdOf ByteArray.empty x0 x8) x10) = 13 then (scriptoriumlaw01_RunesJoin.l1 k x0 x1 x5 x6 x7 x8 x9 (wrap64 (x10 + 1))) else (if x10 ≤ (wrap64 (x10 + 1)) then (if (wrap64 (x10 + 1)) ≤ ((rdOf ByteArray.empty x0 x8).size : Int) then (if x9.size + ((rdOf ByteArray.empty x0 x8).extract (x10 : Int).toNat ((wrap64 (x10 + 1)) : Int).toNat).size ≤ 9223372036854775807 then (scriptoriumlaw01_RunesJoin.l1 k x0 x1 x5 x6 x7 x8 (x9 ++ ((rdOf ByteArray.empty x0 x8).extract (x10 : Int).toNat ((wrap64 (x10 + 1)) : Int).toNat)) (wrap64 (x10 + 1))) else (none)) else (none)) else (none)))) else (none)) else (none)) else (none)) else (none)) else (if x6.length < 8796093022208 then ((some (x6 ++ [x9] : List ByteArray)).bind fun y122 => (if 0 ≤ x8 then (if x8 < (x1.length : Int) then (if (Go.bits .and .i64 (rd x1 x8) 3) = 1 then (if (Go.bits .and .i64 (rd x1 x8) 3) = 2 then (if (wrap64 (x8 + 1)) < (x0.length : Int) then (if (wrap64 (x8 + 1)) < (x1.length : Int) then (if 0 ≤ (wrap64 (x8 + 1)) then (if (rdOf ByteArray.empty x0 (wrap64 (x8 + 1))).toList = ([] : List UInt8) then (if x7.size + x9.size ≤ 9223372036854775807 then (if (x7 ++ x9).size + 2 ≤ 9223372036854775807 then (scriptoriumlaw01_RunesJoin.l0 k x0 x1 x5 y122 ((x7 ++ x9) ++ (⟨#[13, 10]⟩ : ByteArray)) (wrap64 (x8 + 1))) else (none)) else (none)) else (if 0 < ((rdOf ByteArray.empty x0 (wrap64 (x8 + 1))).size : Int) then (if (bt (rdOf ByteArray.empty x0 (wrap64 (x8 + 1))) 0) = 10 then (if x7.size + x9.size ≤ 9223372036854775807 then (if (x7 ++ x9).size + 2 ≤ 9223372036854775807 then (scriptoriumlaw01_RunesJoin.l0 k x0 x1 x5 y122 ((x7 ++ x9) ++ (⟨#[13, 10]⟩ : ByteArray)) (wrap64 (x8 + 1))) else (none)) else (none)) else (if (bt (rdOf ByteArray.empty x0 (wrap64 (x8 + 1))) 0) = 13 then (if x7.size + x9.size ≤ 9223372036854775807 then (if (x7 ++ x9).size + 2 ≤ 9223372036854775807 then (scriptoriumlaw01_RunesJoin.l0 k x0 x1 x5 y122 ((x7 ++ x9) ++ (⟨#[13, 10]⟩ : ByteArray)) (wrap64 (x8 + 1))) else (none)) else (none)) else (if x7.size + x9.size ≤ 9223372036854775807 then (if (x7 ++ x9).size + 1 ≤ 9223372036854775807 then (scriptoriumlaw01_RunesJoin.l0 k x0 x1 x5 y122 ((x7 ++ x9) ++ (⟨#[13]⟩ : ByteArray)) (wrap64 (x8 + 1))) else (none)) else (none)))) else (none))) else (none)) else (if x7.size + x9.size ≤ 9223372036854775807 then (if (x7 ++ x9).size + 2 ≤ 9223372036854775807 then (scriptoriumlaw01_RunesJoin.l0 k x0 x1 x5 y122 ((x7 ++ x9) ++ (⟨#[13, 10]⟩ : ByteArray)) (wrap64 (x8 + 1))) else (none)) else (none))) else (if x7.size + x9.size ≤ 9223372036854775807 then (if (x7 ++ x9).size + 2 ≤ 9223372036854775807 then (scriptoriumlaw01_RunesJoin.l0 k x0 x1 x5 y122 ((x7 ++ x9) ++ (⟨#[13, 10]⟩ : ByteArray)) (wrap64 (x8 + 1))) else (none)) else (none))) else (if x7.size + x9.size ≤ 9223372036854775807 then (if (x7 ++ x9).size + 2 ≤ 9223372036854775807 then (scriptoriumlaw01_RunesJoin.l0 k x0 x1 x5 y122 ((x7 ++ x9) ++ (⟨#[13, 10]⟩ : ByteArray)) (wrap64 (x8 + 1))) else (none)) else (none))) else (if (Go.bits .and .i64 (rd x1 x8) 3) = 2 then (if (wrap64 (x8 + 1)) < (x0.length : Int) then (if (wrap64 (x8 + 1)) < (x1.length : Int) then (if 0 ≤ (wrap64 (x8 + 1)) then (if (rdOf ByteArray.empty x0 (wrap64 (x8 + 1))).toList = ([] : List UInt8) then (if x7.size + x9.size ≤ 9223372036854775807 then (if (x7 ++ x9).size + 1 ≤ 9223372036854775807 then (scriptoriumlaw01_RunesJoin.l0 k x0 x1 x5 y122 ((x7 ++ x9) ++ (⟨#[10]⟩ : ByteArray)) (wrap64 (x8 + 1))) else (none)) else (none)) else (if 0 < ((rdOf ByteArray.empty x0 (wrap64 (x8 + 1))).size : Int) then (if (bt (rdOf ByteArray.empty x0 (wrap64 (x8 + 1))) 0) = 10 then (if x7.size + x9.size ≤ 9223372036854775807 then (if (x7 ++ x9).size + 1 ≤ 9223372036854775807 then (scriptoriumlaw01_RunesJoin.l0 k x0 x1 x5 y122 ((x7 ++ x9) ++ (⟨#[10]⟩ : ByteArray)) (wrap64 (x8 + 1))) else (none)) else (none)) else (if (bt (rdOf ByteArray.empty x0 (wrap64 (x8 + 1))) 0) = 13 then (if x7.size + x9.size ≤ 9223372036854775807 then (if (x7 ++ x9).size + 1 ≤ 9223372036854775807 then (scriptoriumlaw01_RunesJoin.l0 k x0 x1 x5 y122 ((x7 ++ x9) ++ (⟨#[10]⟩ : ByteArray)) (wrap64 (x8 + 1))) else (none)) else (none)) else (if x7.size + x9.size ≤ 9223372036854775807 then (if (x7 ++ x9).size + 1 ≤ 9223372036854775807 then (scriptoriumlaw01_RunesJoin.l0 k x0 x1 x5 y122 ((x7 ++ x9) ++ (⟨#[13]⟩ : ByteArray)) (wrap64 (x8 + 1))) else (none)) else (none)))) else (none))) else (none)) else (if x7.size + x9.size ≤ 9223372036854775807 then (if (x7 ++ x9).size + 1 ≤ 9223372036854775807 then (scriptoriumlaw01_RunesJoin.l0 k x0 x1 x5 y122 ((x7 ++ x9) ++ (⟨#[10]⟩ : ByteArray)) (wrap64 (x8 + 1))) else (none)) else (none))) else (if x7.size + x9.size ≤ 9223372036854775807 then (if (x7 ++ x9).size + 1 ≤ 9223372036854775807 then (scriptoriumlaw01_RunesJoin.l0 k x0 x1 x5 y122 ((x7 ++ x9) ++ (⟨#[10]⟩ : ByteArray)) (wrap64 (x8 + 1))) else (none)) else (none))) else (if x7.size + x9.size ≤ 9223372036854775807 then (if (x7 ++ x9).size + 1 ≤ 9223372036854775807 then (scriptoriumlaw01_RunesJoin.l0 k x0 x1 x5 y122 ((x7 ++ x9) ++ (⟨#[10]⟩ : ByteArray)) (wrap64 (x8 + 1))) else (none)) else (none)))) else (none)) else (none))) else (none))
def scriptoriumlaw01_RunesJoin.j4 : Nat → List ByteArray → List ByteArray → Bool → Option (Bool)
  | 0, _, _, _ => none
  | k + 1, x6, x12, x141 => if x141 = true then (some false) else (scriptoriumlaw01_RunesJoin.l2 k x6 x12 0)
def scriptoriumlaw01_RunesJoin.l2 : Nat → List ByteArray → List ByteArray → Int → Option (Bool)
  | 0, _, _, _ => none
  | k + 1, x6, x12, x13 => if x13 < (x12.length : Int) then (if 0 ≤ x13 then (if x13 < (x6.length : Int) then (if (rdOf ByteArray.empty x12 x13).toList = (rdOf ByteArray.empty x6 x13).toList then (scriptoriumlaw01_RunesJoin.l2 k x6 x12 (wrap64 (x13 + 1))) else (some false)) else (none)) else (none)) else (some true)
end
def scriptoriumlaw01_RunesJoin.f (k : Nat) (l0 : List ByteArray) (l1 : List Int) : Option (Bool) := (scriptoriumlaw01_shown.f).bind fun t117 => (scriptoriumlaw01_RunesJoin.l0 k l0 l1 t117 ([] : List ByteArray) (⟨#[]⟩ : ByteArray) 0)
theorem scriptoriumlaw01_RunesJoin.mono_l : ∀ k, (∀ y0 y1 y2 y3 y4 y5, LeO (scriptoriumlaw01_RunesJoin.l0 k y0 y1 y2 y3 y4 y5) (scriptoriumlaw01_RunesJoin.l0 (k + 1) y0 y1 y2 y3 y4 y5)) ∧ (∀ y0 y1 y2 y3 y4 y5 y6, LeO (scriptoriumlaw01_RunesJoin.j1 k y0 y1 y2 y3 y4 y5 y6) (scriptoriumlaw01_RunesJoin.j1 (k + 1) y0 y1 y2 y3 y4 y5 y6)) ∧ (∀ y0 y1 y2 y3 y4 y5 y6 y7, LeO (scriptoriumlaw01_RunesJoin.l1 k y0 y1 y2 y3 y4 y5 y6 y7) (scriptoriumlaw01_RunesJoin.l1 (k + 1) y0 y1 y2 y3 y4 y5 y6 y7)) ∧ (∀ y0 y1 y2 y3 y4 y5 y6 y7 y8, LeO (scriptoriumlaw01_RunesJoin.j3 k y0 y1 y2 y3 y4 y5 y6 y7 y8) (scriptoriumlaw01_RunesJoin.j3 (k + 1) y0 y1 y2 y3 y4 y5 y6 y7 y8)) ∧ (∀ y0 y1 y2, LeO (scriptoriumlaw01_RunesJoin.j4 k y0 y1 y2) (scriptoriumlaw01_RunesJoin.j4 (k + 1) y0 y1 y2)) ∧ (∀ y0 y1 y2, LeO (scriptoriumlaw01_RunesJoin.l2 k y0 y1 y2) (scriptoriumlaw01_RunesJoin.l2 (k + 1) y0 y1 y2))
  | 0 => ⟨fun _ _ _ _ _ _ r h => by simp [scriptoriumlaw01_RunesJoin.l0] at h, fun _ _ _ _ _ _ _ r h => by simp [scriptoriumlaw01_RunesJoin.j1] at h, fun _ _ _ _ _ _ _ _ r h => by simp [scriptoriumlaw01_RunesJoin.l1] at h, fun _ _ _ _ _ _ _ _ _ r h => by simp [scriptoriumlaw01_RunesJoin.j3] at h, fun _ _ _ r h => by simp [scriptoriumlaw01_RunesJoin.j4] at h, fun _ _ _ r h => by simp [scriptoriumlaw01_RunesJoin.l2] at h⟩
  | k + 1 => by
    obtain ⟨ih0, ih1, ih2, ih3, ih4, ih5⟩ := scriptoriumlaw01_RunesJoin.mono_l k
    refine ⟨?_, ?_, ?_, ?_, ?_, ?_⟩
    · intro y0 y1 y2 y3 y4 y5
      unfold scriptoriumlaw01_RunesJoin.l0
      repeat' first
      | (with_reducible exact ih0 _ _ _ _ _ _)
      | (with_reducible exact ih1 _ _ _ _ _ _ _)
      | (with_reducible exact ih2 _ _ _ _ _ _ _ _)
      | (with_reducible exact ih3 _ _ _ _ _ _ _ _ _)
      | (with_reducible exact ih4 _ _ _)
      | (with_reducible exact ih5 _ _ _)
      | (with_reducible exact LeO.refl _)
      | (with_reducible exact LeO.none _)
      | (with_reducible refine LeO.ite ?_ ?_)
      | (with_reducible refine LeO.bind ?_ (fun _ => ?_))
      | exact ih0 _ _ _ _ _ _
      | exact ih1 _ _ _ _ _ _ _
      | exact ih2 _ _ _ _ _ _ _ _
      | exact ih3 _ _ _ _ _ _ _ _ _
      | exact ih4 _ _ _
      | exact ih5 _ _ _
      | exact LeO.none _
      | refine LeO.ite ?_ ?_
      | refine LeO.bind ?_ (fun _ => ?_)
    · intro y0 y1 y2 y3 y4 y5 y6
      unfold scriptoriumlaw01_RunesJoin.j1
      repeat' first
      | (with_reducible exact ih0 _ _ _ _ _ _)
      | (with_reducible exact ih1 _ _ _ _ _ _ _)
      | (with_reducible exact ih2 _ _ _ _ _ _ _ _)
      | (with_reducible exact ih3 _ _ _ _ _ _ _ _ _)
      | (with_reducible exact ih4 _ _ _)
      | (with_reducible exact ih5 _ _ _)
      | (with_reducible exact LeO.refl _)
      | (with_reducible exact LeO.none _)
      | (with_reducible refine LeO.ite ?_ ?_)
      | (with_reducible refine LeO.bind ?_ (fun _ => ?_))
      | exact ih0 _ _ _ _ _ _
      | exact ih1 _ _ _ _ _ _ _
      | exact ih2 _ _ _ _ _ _ _ _
      | exact ih3 _ _ _ _ _ _ _ _ _
      | exact ih4 _ _ _
      | exact ih5 _ _ _
      | exact LeO.none _
      | refine LeO.ite ?_ ?_
      | refine LeO.bind ?_ (fun _ => ?_)
    · intro y0 y1 y2 y3 y4 y5 y6 y7
      unfold scriptoriumlaw01_RunesJoin.l1
      repeat' first
      | (with_reducible exact ih0 _ _ _ _ _ _)
      | (with_reducible exact ih1 _ _ _ _ _ _ _)
      | (with_reducible exact ih2 _ _ _ _ _ _ _ _)
      | (with_reducible exact ih3 _ _ _ _ _ _ _ _ _)
      | (with_reducible exact ih4 _ _ _)
      | (with_reducible exact ih5 _ _ _)
      | (with_reducible exact LeO.refl _)
      | (with_reducible exact LeO.none _)
      | (with_reducible refine LeO.ite ?_ ?_)
      | (with_reducible refine LeO.bind ?_ (fun _ => ?_))
      | exact ih0 _ _ _ _ _ _
      | exact ih1 _ _ _ _ _ _ _
      | exact ih2 _ _ _ _ _ _ _ _
      | exact ih3 _ _ _ _ _ _ _ _ _
      | exact ih4 _ _ _
      | exact ih5 _ _ _
      | exact LeO.none _
      | refine LeO.ite ?_ ?_
      | refine LeO.bind ?_ (fun _ => ?_)
    · intro y0 y1 y2 y3 y4 y5 y6 y7 y8
      unfold scriptoriumlaw01_RunesJoin.j3
      repeat' first
      | (with_reducible exact ih0 _ _ _ _ _ _)
      | (with_reducible exact ih1 _ _ _ _ _ _ _)
      | (with_reducible exact ih2 _ _ _ _ _ _ _ _)
      | (with_reducible exact ih3 _ _ _ _ _ _ _ _ _)
      | (with_reducible exact ih4 _ _ _)
      | (with_reducible exact ih5 _ _ _)
      | (with_reducible exact LeO.refl _)
      | (with_reducible exact LeO.none _)
      | (with_reducible refine LeO.ite ?_ ?_)
      | (with_reducible refine LeO.bind ?_ (fun _ => ?_))
      | exact ih0 _ _ _ _ _ _
      | exact ih1 _ _ _ _ _ _ _
      | exact ih2 _ _ _ _ _ _ _ _
      | exact ih3 _ _ _ _ _ _ _ _ _
      | exact ih4 _ _ _
      | exact ih5 _ _ _
      | exact LeO.none _
      | refine LeO.ite ?_ ?_
      | refine LeO.bind ?_ (fun _ => ?_)
    · intro y0 y1 y2
      unfold scriptoriumlaw01_RunesJoin.j4
      repeat' first
      | (with_reducible exact ih0 _ _ _ _ _ _)
      | (with_reducible exact ih1 _ _ _ _ _ _ _)
      | (with_reducible exact ih2 _ _ _ _ _ _ _ _)
      | (with_reducible exact ih3 _ _ _ _ _ _ _ _ _)
      | (with_reducible exact ih4 _ _ _)
      | (with_reducible exact ih5 _ _ _)
      | (with_reducible exact LeO.refl _)
      | (with_reducible exact LeO.none _)
      | (with_reducible refine LeO.ite ?_ ?_)
      | (with_reducible refine LeO.bind ?_ (fun _ => ?_))
      | exact ih0 _ _ _ _ _ _
      | exact ih1 _ _ _ _ _ _ _
      | exact ih2 _ _ _ _ _ _ _ _
      | exact ih3 _ _ _ _ _ _ _ _ _
      | exact ih4 _ _ _
      | exact ih5 _ _ _
      | exact LeO.none _
      | refine LeO.ite ?_ ?_
      | refine LeO.bind ?_ (fun _ => ?_)
    · intro y0 y1 y2
      unfold scriptoriumlaw01_RunesJoin.l2
      repeat' first
      | (with_reducible exact ih0 _ _ _ _ _ _)
      | (with_reducible exact ih1 _ _ _ _ _ _ _)
      | (with_reducible exact ih2 _ _ _ _ _ _ _ _)
      | (with_reducible exact ih3 _ _ _ _ _ _ _ _ _)
      | (with_reducible exact ih4 _ _ _)
      | (with_reducible exact ih5 _ _ _)
      | (with_reducible exact LeO.refl _)
      | (with_reducible exact LeO.none _)
      | (with_reducible refine LeO.ite ?_ ?_)
      | (with_reducible refine LeO.bind ?_ (fun _ => ?_))
      | exact ih0 _ _ _ _ _ _
      | exact ih1 _ _ _ _ _ _ _
      | exact ih2 _ _ _ _ _ _ _ _
      | exact ih3 _ _ _ _ _ _ _ _ _
      | exact ih4 _ _ _
      | exact ih5 _ _ _
      | exact LeO.none _
      | refine LeO.ite ?_ ?_
      | refine LeO.bind ?_ (fun _ => ?_)
theorem scriptoriumlaw01_RunesJoin.mono : ∀ a0 a1 k, LeO (scriptoriumlaw01_RunesJoin.f k a0 a1) (scriptoriumlaw01_RunesJoin.f (k + 1) a0 a1) := by
  intro a0 a1 k
  obtain ⟨ih0, ih1, ih2, ih3, ih4, ih5⟩ := scriptoriumlaw01_RunesJoin.mono_l k
  unfold scriptoriumlaw01_RunesJoin.f
  repeat' first
      | (with_reducible exact ih0 _ _ _ _ _ _)
      | (with_reducible exact ih1 _ _ _ _ _ _ _)
      | (with_reducible exact ih2 _ _ _ _ _ _ _ _)
      | (with_reducible exact ih3 _ _ _ _ _ _ _ _ _)
      | (with_reducible exact ih4 _ _ _)
      | (with_reducible exact ih5 _ _ _)
      | (with_reducible exact LeO.refl _)
      | (with_reducible exact LeO.none _)
      | (with_reducible refine LeO.ite ?_ ?_)
      | (with_reducible refine LeO.bind ?_ (fun _ => ?_))
      | exact ih0 _ _ _ _ _ _
      | exact ih1 _ _ _ _ _ _ _
      | exact ih2 _ _ _ _ _ _ _ _
      | exact ih3 _ _ _ _ _ _ _ _ _
      | exact ih4 _ _ _
      | exact ih5 _ _ _
      | exact LeO.none _
      | refine LeO.ite ?_ ?_
      | refine LeO.bind ?_ (fun _ => ?_)
set_option maxHeartbeats 8000000 in
set_option maxRecDepth 100000 in
theorem scriptoriumlaw01_RunesJoin.calls (k : Nat) (A0 : Option Addr) (c0 : Nat) (l0 : List ByteArray) (A1 : Option Addr) (c1 : Nat) (l1 : List Int) (r : Bool) (w : World) (hr0 : Kd.C Kd.string w A0 l0.length l0) (hc0 : l0.length ≤ c0) (hr1 : Kd.C (Kd.int .i64) w A1 l1.length l1) (hc1 : l1.length ≤ c1) (hT : TT w) (h : scriptoriumlaw01_RunesJoin.f k l0 l1 = some r) :
    Calls Tryd.prog 4 #[.slice A0 l0.length c0, .slice A1 l1.length c1] w fun e w' => e = .returned (.bool r) ∧ Below w.heap.size w w' := by
  have HR0 := Aside0.mk hr0
  have HC0 := Aside0.mk hc0
  clear hr0 hc0
  have HR1 := Aside0.mk hr1
  have HC1 := Aside0.mk hc1
  clear hr1 hc1
  have HB := Aside0.mk (Below.refl w.heap.size w)
  have HT := Aside0.mk hT
  clear hT
  have H : ((scriptoriumlaw01_shown.f).bind fun t117 => (scriptoriumlaw01_RunesJoin.l0 k l0 l1 t117 ([] : List ByteArray) (⟨#[]⟩ : ByteArray) 0)) = some r := h
  clear h
  replace H := Option.bind_eq_some_iff.mp H
  obtain ⟨t117, A30, H⟩ := H
  replace H : (scriptoriumlaw01_RunesJoin.l0 k l0 l1 t117 ([] : List ByteArray) (⟨#[]⟩ : ByteArray) 0) = some r := H
  have A3 := Aside0.mk A30
  clear A30
  have H' := Aside0.mk H
  clear H
  go_enter Tryd.func4, Tryd.ntmps4
  go_wp2_with (first | (go_at_call 7; (with_reducible refine (scriptoriumlaw01_shown.calls  t117 _ ?side1 A3.out).mono ?_); (case side1 => exact TT.of HT.out (by repeat (first | (with_reducible first | exact HB.out | apply below_alloc | apply pw_below_drewN | apply below_drew1) | exact HB.out))); rintro e w4 ⟨rfl, hb⟩; have n0_ := Aside0.mk (below_step (by repeat (first | (with_reducible first | exact HB.out | apply below_alloc | apply pw_below_drewN | apply below_drew1) | exact HB.out)) hb); clear HB; have HB := n0_; clear n0_; (try clear hb); (try clear hb2); (try clear hk); (try clear hi)))
  repeat (go_quiet (first | (go_at_call 7; (with_reducible refine (scriptoriumlaw01_shown.calls  t117 _ ?side1 A3.out).mono ?_); (case side1 => exact TT.of HT.out (by repeat (first | (with_reducible first | exact HB.out | apply below_alloc | apply pw_below_drewN | apply below_drew1) | exact HB.out))); rintro e w4 ⟨rfl, hb⟩; have n0_ := Aside0.mk (below_step (by repeat (first | (with_reducible first | exact HB.out | apply below_alloc | apply pw_below_drewN | apply below_drew1) | exact HB.out)) hb); clear HB; have HB := n0_; clear n0_; (try clear hb); (try clear hb2); (try clear hk); (try clear hi))); try go_wp2_with (first | (go_at_call 7; (with_reducible refine (scriptoriumlaw01_shown.calls  t117 _ ?side1 A3.out).mono ?_); (case side1 => exact TT.of HT.out (by repeat (first | (with_reducible first | exact HB.out | apply below_alloc | apply pw_below_drewN | apply below_drew1) | exact HB.out))); rintro e w4 ⟨rfl, hb⟩; have n0_ := Aside0.mk (below_step (by repeat (first | (with_reducible first | exact HB.out | apply below_alloc | apply pw_below_drewN | apply below_drew1) | exact HB.out)) hb); clear HB; have HB := n0_; clear n0_; (try clear hb); (try clear hb2); (try clear hk); (try clear hi))))
  go_loopg [6, 7, 8] k (fun kq v6 v7 v8 w' => ∃ (x6_1 : List ByteArray) (x7_1 : ByteArray) (x8_1 : Int), v7 = .string x7_1 ∧ v8 = .int .i64 x8_1 ∧ Aside0 (scriptoriumlaw01_RunesJoin.l0 kq l0 l1 t117 x6_1 x7_1 x8_1 = some r) ∧ Aside0 (kq ≤ k) ∧ Aside0 (Kd.R Kd.string 9 w' w.heap.size (fun _ => True) v6 x6_1) ∧ Aside0 (Below w.heap.size w w'))
  case atStart => exact ⟨(([] : List ByteArray)), ((⟨#[]⟩ : ByteArray)), (0), (by first | rfl | (simp; done) | (simp [*]; done)), (by first | rfl | (simp; done) | (simp [*]; done)), H', ⟨Nat.le_refl _⟩, ⟨by first | exact Kd.R_nil _ _ _ _ _ | exact Kd.N_nil _ _ _ _ _ | exact Kd.V_nil _ _ _ _ _ | exact Kd.Q_nil _ _ _ _ _ | exact Kd.S_nil _ _ _ _ _⟩, ⟨by repeat (first | (with_reducible first | exact HB.out | apply below_alloc | apply pw_below_drewN | apply below_drew1) | exact HB.out)⟩⟩
  case round =>
    clear H'
    try clear c1
    try clear p2
    try clear c4
    obtain ⟨x6_1, x7_1, x8_1, rfl, rfl, HA, HK1, HO_6, HB⟩ := hrel
    cases gk with
    | zero => exact absurd HA.out (by simp [scriptoriumlaw01_RunesJoin.l0])
    | succ k1 =>
      have H := HA.out
      clear HA
      simp only [scriptoriumlaw01_RunesJoin.l0] at H
      have HC5 := Aside0.mk H
      clear H
      go_upto_region 5 with (fail)
      repeat (go_quiet (fail); go_upto_region 5 with (fail))
      go_cut [28] (fun v28 wc => ∃ (kq : Nat) (x28_4 : Bool), v28 = .bool x28_4 ∧ Aside0 (scriptoriumlaw01_RunesJoin.j1 kq l0 l1 t117 x6_1 x7_1 x8_1 x28_4 = some r) ∧ Aside0 (kq ≤ k1) ∧ Aside0 (Kd.R Kd.string 9 wc w.heap.size (fun _ => True) u6 x6_1) ∧ Aside0 (Below w.heap.size w wc))
      case first =>
        have H := HC5.out
        clear HC5
        by_cases c6 : x8_1 < (l0.length : Int)
        · rw [if_pos c6] at H
          have c6b0 : decide (x8_1 < (l0.length : Int)) = true := decide_eq_true c6
          clear c6
          (first | rw [c6b0] | (simp only [i64_w, i32_w]; rw [c6b0]) | skip)
          by_cases c7 : x8_1 < (l1.length : Int)
          · rw [if_pos c7] at H
            have c7b0 : decide (x8_1 < (l1.length : Int)) = true := decide_eq_true c7
            clear c7
            have H' := Aside0.mk H
            clear H
            go_wp2
            repeat (go_quiet (fail); try go_wp2)
            go_meet
            case rel => exact ⟨_, (decide (x8_1 < 50)), (by first | rfl | (simp; done) | (simp [*]; done)), H', ⟨by have := HK1.out; first | omega | exact Nat.le_refl _⟩, ⟨by (with_reducible repeat (first | apply Kd.R_alloc | apply Kd.R_drewN | apply Kd.R_drew)); exact HO_6.out⟩, ⟨by repeat (first | (with_reducible first | exact HB.out | apply below_alloc | apply pw_below_drewN | apply below_drew1) | exact HB.out)⟩⟩
          · rw [if_neg c7] at H
            have c7b0 : decide (x8_1 < (l1.length : Int)) = false := decide_eq_false c7
            clear c7
            have H' := Aside0.mk H
            clear H
            go_wp2
            repeat (go_quiet (fail); try go_wp2)
            go_meet
            case rel => exact ⟨_, (false), (by first | rfl | (simp; done) | (simp [*]; done)), H', ⟨by have := HK1.out; first | omega | exact Nat.le_refl _⟩, ⟨by (with_reducible repeat (first | apply Kd.R_alloc | apply Kd.R_drewN | apply Kd.R_drew)); exact HO_6.out⟩, ⟨by repeat (first | (with_reducible first | exact HB.out | apply below_alloc | apply pw_below_drewN | apply below_drew1) | exact HB.out)⟩⟩
        · rw [if_neg c6] at H
          have c6b0 : decide (x8_1 < (l0.length : Int)) = false := decide_eq_false c6
          clear c6
          (first | rw [c6b0] | (simp only [i64_w, i32_w]; rw [c6b0]) | skip)
          have H' := Aside0.mk H
          clear H
          go_wp2
          repeat (go_quiet (fail); try go_wp2)
          go_meet
          case rel => exact ⟨_, (false), (by first | rfl | (simp; done) | (simp [*]; done)), H', ⟨by have := HK1.out; first | omega | exact Nat.le_refl _⟩, ⟨by (with_reducible repeat (first | apply Kd.R_alloc | apply Kd.R_drewN | apply Kd.R_drew)); exact HO_6.out⟩, ⟨by repeat (first | (with_reducible first | exact HB.out | apply below_alloc | apply pw_below_drewN | apply below_drew1) | exact HB.out)⟩⟩
      case rest =>
        clear HC5
        try clear c1
        try clear p2
        try clear c4
        try clear c6
        try clear c6b0
        try clear c7
        try clear c7b0
        try clear p2
        obtain ⟨kq, x28_4, rfl, HA, HJ4, HO_6, HB⟩ := hcut
        cases kq with
        | zero => exact absurd HA.out (by simp [scriptoriumlaw01_RunesJoin.j1])
        | succ kj4 =>
          have H := HA.out
          clear HA
          simp only [scriptoriumlaw01_RunesJoin.j1] at H
          by_cases c8 : x28_4 = true
          · subst c8
            have H1 : (scriptoriumlaw01_RunesJoin.l1 kj4 l0 l1 t117 x6_1 x7_1 x8_1 (⟨#[]⟩ : ByteArray) 0) = some r := by rw [if_pos rfl] at H; exact H
            clear H
            have H := H1
            clear H1
            have H' := Aside0.mk H
            clear H
            go_wp2
            repeat (go_quiet (fail); try go_wp2)
            go_loopg [9, 10] kj4 (fun kq v9 v10 w' => ∃ (x9_3 : ByteArray) (x10_3 : Int), v9 = .string x9_3 ∧ v10 = .int .i64 x10_3 ∧ Aside0 (scriptoriumlaw01_RunesJoin.l1 kq l0 l1 t117 x6_1 x7_1 x8_1 x9_3 x10_3 = some r) ∧ Aside0 (kq ≤ kj4) ∧ Aside0 (Kd.R Kd.string 9 w' w.heap.size (fun _ => True) u6 x6_1) ∧ Aside0 (Below w.heap.size w w'))
            case atStart => exact ⟨((⟨#[]⟩ : ByteArray)), (0), (by first | rfl | (simp; done) | (simp [*]; done)), (by first | rfl | (simp; done) | (simp [*]; done)), H', ⟨Nat.le_refl _⟩, ⟨by (with_reducible repeat (first | apply Kd.R_alloc | apply Kd.R_drewN | apply Kd.R_drew)); exact HO_6.out⟩, ⟨by repeat (first | (with_reducible first | exact HB.out | apply below_alloc | apply pw_below_drewN | apply below_drew1) | exact HB.out)⟩⟩
            case round =>
              clear H'
              try clear c1
              try clear p2
              try clear c4
              try clear c6
              try clear c6b0
              try clear c7
              try clear c7b0
              try clear c8
              try clear p2
              obtain ⟨x9_3, x10_3, rfl, rfl, HA, HK3, HO_6, HB⟩ := hrel
              cases gk with
              | zero => exact absurd HA.out (by simp [scriptoriumlaw01_RunesJoin.l1])
              | succ k3 =>
                have H := HA.out
                clear HA
                simp only [scriptoriumlaw01_RunesJoin.l1] at H
                have HC9 := Aside0.mk H
                clear H
                go_upto_region 9 with (fail)
                repeat (go_quiet (fail); go_upto_region 9 with (fail))
                go_cut [41] (fun v41 wc => ∃ (kq : Nat) (x41_8 : Bool), v41 = .bool x41_8 ∧ Aside0 (scriptoriumlaw01_RunesJoin.j3 kq l0 l1 t117 x6_1 x7_1 x8_1 x9_3 x10_3 x41_8 = some r) ∧ Aside0 (kq ≤ k3) ∧ Aside0 (Kd.R Kd.string 9 wc w.heap.size (fun _ => True) u6 x6_1) ∧ Aside0 (Below w.heap.size w wc))
                case first =>
                  have H := HC9.out
                  clear HC9
                  by_cases c10 : 0 ≤ x8_1
                  · rw [if_pos c10] at H
                    have c10b0 : decide (0 ≤ x8_1) = true := decide_eq_true c10
                    clear c10
                    (first | rw [c10b0] | (simp only [i64_w, i32_w]; rw [c10b0]) | skip)
                    by_cases c11 : x8_1 < (l0.length : Int)
                    · rw [if_pos c11] at H
                      have c11b0 : decide (x8_1 < (l0.length : Int)) = true := decide_eq_true c11
                      clear c11
                      by_cases c12 : x10_3 < ((rdOf ByteArray.empty l0 x8_1).size : Int)
                      · rw [if_pos c12] at H
                        have c12b0 : decide (x10_3 < ((rdOf ByteArray.empty l0 x8_1).size : Int)) = true := decide_eq_true c12
                        clear c12
                        have H' := Aside0.mk H
                        clear H
                        have p118 : 0 ≤ (x8_1 : Int) := of_decide_eq_true (by first | (with_reducible assumption) | assumption)
                        have q118 : x8_1 < (l0.length : Int) := of_decide_eq_true (by first | (with_reducible assumption) | assumption)
                        obtain ⟨ad118, e118, hx118_0⟩ := Kd.at_string HR0.out x8_1 p118 q118
                        cases e118
                        replace hx118_0 := (HB.out.cell (World.block_lt_of_cell? w _ hx118_0)).trans hx118_0
                        replace p118 := eq_true p118
                        replace q118 := eq_true q118
                        go_wp2
                        repeat (go_quiet (fail); try go_wp2)
                        go_meet
                        case rel => exact ⟨_, (decide (x10_3 < 200)), (by first | rfl | (simp; done) | (simp [*]; done)), H', ⟨by have := HK1.out; have := HJ4.out; have := HK3.out; first | omega | exact Nat.le_refl _⟩, ⟨by (with_reducible repeat (first | apply Kd.R_alloc | apply Kd.R_drewN | apply Kd.R_drew)); exact HO_6.out⟩, ⟨by repeat (first | (with_reducible first | exact HB.out | apply below_alloc | apply pw_below_drewN | apply below_drew1) | exact HB.out)⟩⟩
                      · rw [if_neg c12] at H
                        have c12b0 : decide (x10_3 < ((rdOf ByteArray.empty l0 x8_1).size : Int)) = false := decide_eq_false c12
                        clear c12
                        have H' := Aside0.mk H
                        clear H
                        have p118 : 0 ≤ (x8_1 : Int) := of_decide_eq_true (by first | (with_reducible assumption) | assumption)
                        have q118 : x8_1 < (l0.length : Int) := of_decide_eq_true (by first | (with_reducible assumption) | assumption)
                        obtain ⟨ad118, e118, hx118_0⟩ := Kd.at_string HR0.out x8_1 p118 q118
                        cases e118
                        replace hx118_0 := (HB.out.cell (World.block_lt_of_cell? w _ hx118_0)).trans hx118_0
                        replace p118 := eq_true p118
                        replace q118 := eq_true q118
                        go_wp2
                        repeat (go_quiet (fail); try go_wp2)
                        go_meet
                        case rel => exact ⟨_, (false), (by first | rfl | (simp; done) | (simp [*]; done)), H', ⟨by have := HK1.out; have := HJ4.out; have := HK3.out; first | omega | exact Nat.le_refl _⟩, ⟨by (with_reducible repeat (first | apply Kd.R_alloc | apply Kd.R_drewN | apply Kd.R_drew)); exact HO_6.out⟩, ⟨by repeat (first | (with_reducible first | exact HB.out | apply below_alloc | apply pw_below_drewN | apply below_drew1) | exact HB.out)⟩⟩
                    · rw [if_neg c11] at H
                      exact absurd H (by simp)
                  · rw [if_neg c10] at H
                    exact absurd H (by simp)
                case rest =>
                  clear HC9
                  try clear c1
                  try clear p1
                  try clear q1
                  try clear hx1
                  try clear p2
                  try clear c4
                  try clear c6
                  try clear c6b0
                  try clear c7
                  try clear c7b0
                  try clear c8
                  try clear c10
                  try clear c10b0
                  try clear c11
                  try clear c11b0
                  try clear p11
                  try clear q11
                  try clear hx11
                  try clear c12
                  try clear c12b0
                  try clear hx118_0
                  try clear p118
                  try clear p2
                  try clear q118
                  obtain ⟨kq, x41_8, rfl, HA, HJ8, HO_6, HB⟩ := hcut
                  cases kq with
                  | zero => exact absurd HA.out (by simp [scriptoriumlaw01_RunesJoin.j3])
                  | succ kj8 =>
                    have H := HA.out
                    clear HA
                    simp only [scriptoriumlaw01_RunesJoin.j3] at H
                    by_cases c13 : x41_8 = true
                    · subst c13
                      have H1 : (if 0 ≤ x8_1 then (if x8_1 < (l0.length : Int) then (if 0 ≤ x10_3 then (if x10_3 < ((rdOf ByteArray.empty l0 x8_1).size : Int) then (if (bt (rdOf ByteArray.empty l0 x8_1) x10_3) = 10 then (scriptoriumlaw01_RunesJoin.l1 kj8 l0 l1 t117 x6_1 x7_1 x8_1 x9_3 (wrap64 (x10_3 + 1))) else (if (bt (rdOf ByteArray.empty l0 x8_1) x10_3) = 13 then (scriptoriumlaw01_RunesJoin.l1 kj8 l0 l1 t117 x6_1 x7_1 x8_1 x9_3 (wrap64 (x10_3 + 1))) else (if x10_3 ≤ (wrap64 (x10_3 + 1)) then (if (wrap64 (x10_3 + 1)) ≤ ((rdOf ByteArray.empty l0 x8_1).size : Int) then (if x9_3.size + ((rdOf ByteArray.empty l0 x8_1).extract (x10_3 : Int).toNat ((wrap64 (x10_3 + 1)) : Int).toNat).size ≤ 9223372036854775807 then (scriptoriumlaw01_RunesJoin.l1 kj8 l0 l1 t117 x6_1 x7_1 x8_1 (x9_3 ++ ((rdOf ByteArray.empty l0 x8_1).extract (x10_3 : Int).toNat ((wrap64 (x10_3 + 1)) : Int).toNat)) (wrap64 (x10_3 + 1))) else (none)) else (none)) else (none)))) else (none)) else (none)) else (none)) else (none)) = some r := by rw [if_pos rfl] at H; exact H
                      clear H
                      have H := H1
                      clear H1
                      by_cases c14 : 0 ≤ x8_1
                      · rw [if_pos c14] at H
                        have c14b0 : decide (0 ≤ x8_1) = true := decide_eq_true c14
                        clear c14
                        by_cases c15 : x8_1 < (l0.length : Int)
                        · rw [if_pos c15] at H
                          have c15b0 : decide (x8_1 < (l0.length : Int)) = true := decide_eq_true c15
                          clear c15
                          by_cases c16 : 0 ≤ x10_3
                          · rw [if_pos c16] at H
                            have c16b0 : decide (0 ≤ x10_3) = true := decide_eq_true c16
                            clear c16
                            by_cases c17 : x10_3 < ((rdOf ByteArray.empty l0 x8_1).size : Int)
                            · rw [if_pos c17] at H
                              have c17b0 : decide (x10_3 < ((rdOf ByteArray.empty l0 x8_1).size : Int)) = true := decide_eq_true c17
                              clear c17
                              by_cases c19 : (bt (rdOf ByteArray.empty l0 x8_1) x10_3) = 10
                              · rw [if_pos c19] at H
                                have c19b0 : ((bt (rdOf ByteArray.empty l0 x8_1) x10_3) == 10) = true := beq_iff_eq.mpr c19
                                have c19b1 : ((bt (rdOf ByteArray.empty l0 x8_1) x10_3) != 10) = false := bne_eq_false_iff_eq.mpr c19
                                clear c19
                                have H' := Aside0.mk H
                                clear H
                                have p119 : 0 ≤ (x8_1 : Int) := of_decide_eq_true (by first | (with_reducible assumption) | assumption)
                                have q119 : x8_1 < (l0.length : Int) := of_decide_eq_true (by first | (with_reducible assumption) | assumption)
                                obtain ⟨ad119, e119, hx119_0⟩ := Kd.at_string HR0.out x8_1 p119 q119
                                cases e119
                                replace hx119_0 := (HB.out.cell (World.block_lt_of_cell? w _ hx119_0)).trans hx119_0
                                replace p119 := eq_true p119
                                replace q119 := eq_true q119
                                have p18 : 0 ≤ (x10_3 : Int) := of_decide_eq_true (by first | (with_reducible assumption) | assumption)
                                have q18 : x10_3 < ((rdOf ByteArray.empty l0 x8_1).size : Int) := of_decide_eq_true (by first | (with_reducible assumption) | assumption)
                                have hx18 := bt_at (rdOf ByteArray.empty l0 x8_1) x10_3
                                replace p18 := eq_true p18
                                replace q18 := eq_true q18
                                go_wp2
                                repeat (go_quiet (fail); try go_wp2)
                                go_roundg kj8
                                case measure => have := HK1.out; have := HJ4.out; have := HK3.out; have := HJ8.out; omega
                                case rel => exact ⟨(x9_3), (wrap64 (x10_3 + 1)), (by first | rfl | (simp; done) | (simp [*]; done)), (by first | rfl | (simp; done) | (simp [*]; done)), H', ⟨by have := HK1.out; have := HJ4.out; have := HK3.out; have := HJ8.out; omega⟩, ⟨by (with_reducible repeat (first | apply Kd.R_alloc | apply Kd.R_drewN | apply Kd.R_drew)); exact HO_6.out⟩, ⟨by repeat (first | (with_reducible first | exact HB.out | apply below_alloc | apply pw_below_drewN | apply below_drew1) | exact HB.out)⟩⟩
                              · rw [if_neg c19] at H
                                have c19b0 : ((bt (rdOf ByteArray.empty l0 x8_1) x10_3) == 10) = false := beq_eq_false_iff_ne.mpr c19
                                have c19b1 : ((bt (rdOf ByteArray.empty l0 x8_1) x10_3) != 10) = true := bne_iff_ne.mpr c19
                                by_cases c21 : (bt (rdOf ByteArray.empty l0 x8_1) x10_3) = 13
                                · rw [if_pos c21] at H
                                  have c21b0 : ((bt (rdOf ByteArray.empty l0 x8_1) x10_3) == 13) = true := beq_iff_eq.mpr c21
                                  have c21b1 : ((bt (rdOf ByteArray.empty l0 x8_1) x10_3) != 13) = false := bne_eq_false_iff_eq.mpr c21
                                  clear c21
                                  have H' := Aside0.mk H
                                  clear H
                                  have p119 : 0 ≤ (x8_1 : Int) := of_decide_eq_true (by first | (with_reducible assumption) | assumption)
                                  have q119 : x8_1 < (l0.length : Int) := of_decide_eq_true (by first | (with_reducible assumption) | assumption)
                                  obtain ⟨ad119, e119, hx119_0⟩ := Kd.at_string HR0.out x8_1 p119 q119
                                  cases e119
                                  replace hx119_0 := (HB.out.cell (World.block_lt_of_cell? w _ hx119_0)).trans hx119_0
                                  replace p119 := eq_true p119
                                  replace q119 := eq_true q119
                                  have p18 : 0 ≤ (x10_3 : Int) := of_decide_eq_true (by first | (with_reducible assumption) | assumption)
                                  have q18 : x10_3 < ((rdOf ByteArray.empty l0 x8_1).size : Int) := of_decide_eq_true (by first | (with_reducible assumption) | assumption)
                                  have hx18 := bt_at (rdOf ByteArray.empty l0 x8_1) x10_3
                                  replace p18 := eq_true p18
                                  replace q18 := eq_true q18
                                  have p120 : 0 ≤ (x8_1 : Int) := of_decide_eq_true (by first | (with_reducible assumption) | assumption)
                                  have q120 : x8_1 < (l0.length : Int) := of_decide_eq_true (by first | (with_reducible assumption) | assumption)
                                  obtain ⟨ad120, e120, hx120_0⟩ := Kd.at_string HR0.out x8_1 p120 q120
                                  obtain rfl : ad119 = ad120 := (by injection e120)
                                  replace hx120_0 := (HB.out.cell (World.block_lt_of_cell? w _ hx120_0)).trans hx120_0
                                  replace p120 := eq_true p120
                                  replace q120 := eq_true q120
                                  have p20 : 0 ≤ (x10_3 : Int) := of_decide_eq_true (by first | (with_reducible assumption) | assumption)
                                  have q20 : x10_3 < ((rdOf ByteArray.empty l0 x8_1).size : Int) := of_decide_eq_true (by first | (with_reducible assumption) | assumption)
                                  have hx20 := bt_at (rdOf ByteArray.empty l0 x8_1) x10_3
                                  replace p20 := eq_true p20
                                  replace q20 := eq_true q20
                                  go_wp2
                                  repeat (go_quiet (fail); try go_wp2)
                                  go_roundg kj8
                                  case measure => have := HK1.out; have := HJ4.out; have := HK3.out; have := HJ8.out; omega
                                  case rel => exact ⟨(x9_3), (wrap64 (x10_3 + 1)), (by first | rfl | (simp; done) | (simp [*]; done)), (by first | rfl | (simp; done) | (simp [*]; done)), H', ⟨by have := HK1.out; have := HJ4.out; have := HK3.out; have := HJ8.out; omega⟩, ⟨by (with_reducible repeat (first | apply Kd.R_alloc | apply Kd.R_drewN | apply Kd.R_drew)); exact HO_6.out⟩, ⟨by repeat (first | (with_reducible first | exact HB.out | apply below_alloc | apply pw_below_drewN | apply below_drew1) | exact HB.out)⟩⟩
                                · rw [if_neg c21] at H
                                  have c21b0 : ((bt (rdOf ByteArray.empty l0 x8_1) x10_3) == 13) = false := beq_eq_false_iff_ne.mpr c21
                                  have c21b1 : ((bt (rdOf ByteArray.empty l0 x8_1) x10_3) != 13) = true := bne_iff_ne.mpr c21
                                  have c22b0 := eq_true (of_decide_eq_true (by first | (with_reducible assumption) | assumption) : 0 ≤ x10_3)
                                  by_cases c23 : x10_3 ≤ (wrap64 (x10_3 + 1))
                                  · rw [if_pos c23] at H
                                    have c23b0 := eq_true c23
                                    have c23b1 : decide (x10_3 ≤ (wrap64 (x10_3 + 1))) = true := decide_eq_true c23
                                    by_cases c24 : (wrap64 (x10_3 + 1)) ≤ ((rdOf ByteArray.empty l0 x8_1).size : Int)
                                    · rw [if_pos c24] at H
                                      have c24b0 := eq_true c24
                                      have c24b1 : decide ((wrap64 (x10_3 + 1)) ≤ ((rdOf ByteArray.empty l0 x8_1).size : Int)) = true := decide_eq_true c24
                                      by_cases c25 : x9_3.size + ((rdOf ByteArray.empty l0 x8_1).extract (x10_3 : Int).toNat ((wrap64 (x10_3 + 1)) : Int).toNat).size ≤ 9223372036854775807
                                      · rw [if_pos c25] at H
                                        have c25b0 := eq_true c25
                                        have c25b1 : decide (x9_3.size + ((rdOf ByteArray.empty l0 x8_1).extract (x10_3 : Int).toNat ((wrap64 (x10_3 + 1)) : Int).toNat).size ≤ 9223372036854775807) = true := decide_eq_true c25
                                        try have c25b2 : (9223372036854775807 < x9_3.size + ((rdOf ByteArray.empty l0 x8_1).extract (x10_3 : Int).toNat ((wrap64 (x10_3 + 1)) : Int).toNat).size) = False := eq_false (Nat.not_lt.2 c25)
                                        have H' := Aside0.mk H
                                        clear H
                                        have p119 : 0 ≤ (x8_1 : Int) := of_decide_eq_true (by first | (with_reducible assumption) | assumption)
                                        have q119 : x8_1 < (l0.length : Int) := of_decide_eq_true (by first | (with_reducible assumption) | assumption)
                                        obtain ⟨ad119, e119, hx119_0⟩ := Kd.at_string HR0.out x8_1 p119 q119
                                        cases e119
                                        replace hx119_0 := (HB.out.cell (World.block_lt_of_cell? w _ hx119_0)).trans hx119_0
                                        replace p119 := eq_true p119
                                        replace q119 := eq_true q119
                                        have p18 : 0 ≤ (x10_3 : Int) := of_decide_eq_true (by first | (with_reducible assumption) | assumption)
                                        have q18 : x10_3 < ((rdOf ByteArray.empty l0 x8_1).size : Int) := of_decide_eq_true (by first | (with_reducible assumption) | assumption)
                                        have hx18 := bt_at (rdOf ByteArray.empty l0 x8_1) x10_3
                                        replace p18 := eq_true p18
                                        replace q18 := eq_true q18
                                        have p120 : 0 ≤ (x8_1 : Int) := of_decide_eq_true (by first | (with_reducible assumption) | assumption)
                                        have q120 : x8_1 < (l0.length : Int) := of_decide_eq_true (by first | (with_reducible assumption) | assumption)
                                        obtain ⟨ad120, e120, hx120_0⟩ := Kd.at_string HR0.out x8_1 p120 q120
                                        obtain rfl : ad119 = ad120 := (by injection e120)
                                        replace hx120_0 := (HB.out.cell (World.block_lt_of_cell? w _ hx120_0)).trans hx120_0
                                        replace p120 := eq_true p120
                                        replace q120 := eq_true q120
                                        have p20 : 0 ≤ (x10_3 : Int) := of_decide_eq_true (by first | (with_reducible assumption) | assumption)
                                        have q20 : x10_3 < ((rdOf ByteArray.empty l0 x8_1).size : Int) := of_decide_eq_true (by first | (with_reducible assumption) | assumption)
                                        have hx20 := bt_at (rdOf ByteArray.empty l0 x8_1) x10_3
                                        replace p20 := eq_true p20
                                        replace q20 := eq_true q20
                                        have p121 : 0 ≤ (x8_1 : Int) := of_decide_eq_true (by first | (with_reducible assumption) | assumption)
                                        have q121 : x8_1 < (l0.length : Int) := of_decide_eq_true (by first | (with_reducible assumption) | assumption)
                                        obtain ⟨ad121, e121, hx121_0⟩ := Kd.at_string HR0.out x8_1 p121 q121
                                        obtain rfl : ad119 = ad121 := (by injection e121)
                                        replace hx121_0 := (HB.out.cell (World.block_lt_of_cell? w _ hx121_0)).trans hx121_0
                                        replace p121 := eq_true p121
                                        replace q121 := eq_true q121
                                        go_wp2
                                        repeat (go_quiet (fail); try go_wp2)
                                        go_roundg kj8
                                        case measure => have := HK1.out; have := HJ4.out; have := HK3.out; have := HJ8.out; omega
                                        case rel => exact ⟨(x9_3 ++ ((rdOf ByteArray.empty l0 x8_1).extract (x10_3 : Int).toNat ((wrap64 (x10_3 + 1)) : Int).toNat)), (wrap64 (x10_3 + 1)), (by first | rfl | (simp; done) | (simp [*]; done)), (by first | rfl | (simp; done) | (simp [*]; done)), H', ⟨by have := HK1.out; have := HJ4.out; have := HK3.out; have := HJ8.out; omega⟩, ⟨by (with_reducible repeat (first | apply Kd.R_alloc | apply Kd.R_drewN | apply Kd.R_drew)); exact HO_6.out⟩, ⟨by repeat (first | (with_reducible first | exact HB.out | apply below_alloc | apply pw_below_drewN | apply below_drew1) | exact HB.out)⟩⟩
                                      · rw [if_neg c25] at H
                                        exact absurd H (by simp)
                                    · rw [if_neg c24] at H
                                      exact absurd H (by simp)
                                  · rw [if_neg c23] at H
                                    exact absurd H (by simp)
                            · rw [if_neg c17] at H
                              exact absurd H (by simp)
                          · rw [if_neg c16] at H
                            exact absurd H (by simp)
                        · rw [if_neg c15] at H
                          exact absurd H (by simp)
                      · rw [if_neg c14] at H
                        exact absurd H (by simp)
                    · replace c13 := Bool.eq_false_iff.mpr c13
                      subst c13
                      have H1 : (if x6_1.length < 8796093022208 then ((some (x6_1 ++ [x9_3] : List ByteArray)).bind fun y122 => (if 0 ≤ x8_1 then (if x8_1 < (l1.length : Int) then (if (Go.bits .and .i64 (rd l1 x8_1) 3) = 1 then (if (Go.bits .and .i64 (rd l1 x8_1) 3) = 2 then (if (wrap64 (x8_1 + 1)) < (l0.length : Int) then (if (wrap64 (x8_1 + 1)) < (l1.length : Int) then (if 0 ≤ (wrap64 (x8_1 + 1)) then (if (rdOf ByteArray.empty l0 (wrap64 (x8_1 + 1))).toList = ([] : List UInt8) then (if x7_1.size + x9_3.size ≤ 9223372036854775807 then (if (x7_1 ++ x9_3).size + 2 ≤ 9223372036854775807 then (scriptoriumlaw01_RunesJoin.l0 kj8 l0 l1 t117 y122 ((x7_1 ++ x9_3) ++ (⟨#[13, 10]⟩ : ByteArray)) (wrap64 (x8_1 + 1))) else (none)) else (none)) else (if 0 < ((rdOf ByteArray.empty l0 (wrap64 (x8_1 + 1))).size : Int) then (if (bt (rdOf ByteArray.empty l0 (wrap64 (x8_1 + 1))) 0) = 10 then (if x7_1.size + x9_3.size ≤ 9223372036854775807 then (if (x7_1 ++ x9_3).size + 2 ≤ 9223372036854775807 then (scriptoriumlaw01_RunesJoin.l0 kj8 l0 l1 t117 y122 ((x7_1 ++ x9_3) ++ (⟨#[13, 10]⟩ : ByteArray)) (wrap64 (x8_1 + 1))) else (none)) else (none)) else (if (bt (rdOf ByteArray.empty l0 (wrap64 (x8_1 + 1))) 0) = 13 then (if x7_1.size + x9_3.size ≤ 9223372036854775807 then (if (x7_1 ++ x9_3).size + 2 ≤ 9223372036854775807 then (scriptoriumlaw01_RunesJoin.l0 kj8 l0 l1 t117 y122 ((x7_1 ++ x9_3) ++ (⟨#[13, 10]⟩ : ByteArray)) (wrap64 (x8_1 + 1))) else (none)) else (none)) else (if x7_1.size + x9_3.size ≤ 9223372036854775807 then (if (x7_1 ++ x9_3).size + 1 ≤ 9223372036854775807 then (scriptoriumlaw01_RunesJoin.l0 kj8 l0 l1 t117 y122 ((x7_1 ++ x9_3) ++ (⟨#[13]⟩ : ByteArray)) (wrap64 (x8_1 + 1))) else (none)) else (none)))) else (none))) else (none)) else (if x7_1.size + x9_3.size ≤ 9223372036854775807 then (if (x7_1 ++ x9_3).size + 2 ≤ 9223372036854775807 then (scriptoriumlaw01_RunesJoin.l0 kj8 l0 l1 t117 y122 ((x7_1 ++ x9_3) ++ (⟨#[13, 10]⟩ : ByteArray)) (wrap64 (x8_1 + 1))) else (none)) else (none))) else (if x7_1.size + x9_3.size ≤ 9223372036854775807 then (if (x7_1 ++ x9_3).size + 2 ≤ 9223372036854775807 then (scriptoriumlaw01_RunesJoin.l0 kj8 l0 l1 t117 y122 ((x7_1 ++ x9_3) ++ (⟨#[13, 10]⟩ : ByteArray)) (wrap64 (x8_1 + 1))) else (none)) else (none))) else (if x7_1.size + x9_3.size ≤ 9223372036854775807 then (if (x7_1 ++ x9_3).size + 2 ≤ 9223372036854775807 then (scriptoriumlaw01_RunesJoin.l0 kj8 l0 l1 t117 y122 ((x7_1 ++ x9_3) ++ (⟨#[13, 10]⟩ : ByteArray)) (wrap64 (x8_1 + 1))) else (none)) else (none))) else (if (Go.bits .and .i64 (rd l1 x8_1) 3) = 2 then (if (wrap64 (x8_1 + 1)) < (l0.length : Int) then (if (wrap64 (x8_1 + 1)) < (l1.length : Int) then (if 0 ≤ (wrap64 (x8_1 + 1)) then (if (rdOf ByteArray.empty l0 (wrap64 (x8_1 + 1))).toList = ([] : List UInt8) then (if x7_1.size + x9_3.size ≤ 9223372036854775807 then (if (x7_1 ++ x9_3).size + 1 ≤ 9223372036854775807 then (scriptoriumlaw01_RunesJoin.l0 kj8 l0 l1 t117 y122 ((x7_1 ++ x9_3) ++ (⟨#[10]⟩ : ByteArray)) (wrap64 (x8_1 + 1))) else (none)) else (none)) else (if 0 < ((rdOf ByteArray.empty l0 (wrap64 (x8_1 + 1))).size : Int) then (if (bt (rdOf ByteArray.empty l0 (wrap64 (x8_1 + 1))) 0) = 10 then (if x7_1.size + x9_3.size ≤ 9223372036854775807 then (if (x7_1 ++ x9_3).size + 1 ≤ 9223372036854775807 then (scriptoriumlaw01_RunesJoin.l0 kj8 l0 l1 t117 y122 ((x7_1 ++ x9_3) ++ (⟨#[10]⟩ : ByteArray)) (wrap64 (x8_1 + 1))) else (none)) else (none)) else (if (bt (rdOf ByteArray.empty l0 (wrap64 (x8_1 + 1))) 0) = 13 then (if x7_1.size + x9_3.size ≤ 9223372036854775807 then (if (x7_1 ++ x9_3).size + 1 ≤ 9223372036854775807 then (scriptoriumlaw01_RunesJoin.l0 kj8 l0 l1 t117 y122 ((x7_1 ++ x9_3) ++ (⟨#[10]⟩ : ByteArray)) (wrap64 (x8_1 + 1))) else (none)) else (none)) else (if x7_1.size + x9_3.size ≤ 9223372036854775807 then (if (x7_1 ++ x9_3).size + 1 ≤ 9223372036854775807 then (scriptoriumlaw01_RunesJoin.l0 kj8 l0 l1 t117 y122 ((x7_1 ++ x9_3) ++ (⟨#[13]⟩ : ByteArray)) (wrap64 (x8_1 + 1))) else (none)) else (none)))) else (none))) else (none)) else (if x7_1.size + x9_3.size ≤ 9223372036854775807 then (if (x7_1 ++ x9_3).size + 1 ≤ 9223372036854775807 then (scriptoriumlaw01_RunesJoin.l0 kj8 l0 l1 t117 y122 ((x7_1 ++ x9_3) ++ (⟨#[10]⟩ : ByteArray)) (wrap64 (x8_1 + 1))) else (none)) else (none))) else (if x7_1.size + x9_3.size ≤ 9223372036854775807 then (if (x7_1 ++ x9_3).size + 1 ≤ 9223372036854775807 then (scriptoriumlaw01_RunesJoin.l0 kj8 l0 l1 t117 y122 ((x7_1 ++ x9_3) ++ (⟨#[10]⟩ : ByteArray)) (wrap64 (x8_1 + 1))) else (none)) else (none))) else (if x7_1.size + x9_3.size ≤ 9223372036854775807 then (if (x7_1 ++ x9_3).size + 1 ≤ 9223372036854775807 then (scriptoriumlaw01_RunesJoin.l0 kj8 l0 l1 t117 y122 ((x7_1 ++ x9_3) ++ (⟨#[10]⟩ : ByteArray)) (wrap64 (x8_1 + 1))) else (none)) else (none)))) else (none)) else (none))) else (none)) = some r := by rw [if_neg (show ¬ (false = true) by decide)] at H; exact H
                      clear H
                      have H := H1
                      clear H1
                      by_cases c26 : x6_1.length < 8796093022208
                      · rw [if_pos c26] at H
                        have LMc26 := Aside0.mk c26
                        clear c26
                        obtain ⟨y122, hy122⟩ : ∃ y_ : List ByteArray, y_ = (x6_1 ++ [x9_3]) := ⟨_, rfl⟩
                        replace H : (if 0 ≤ x8_1 then (if x8_1 < (l1.length : Int) then (if (Go.bits .and .i64 (rd l1 x8_1) 3) = 1 then (if (Go.bits .and .i64 (rd l1 x8_1) 3) = 2 then (if (wrap64 (x8_1 + 1)) < (l0.length : Int) then (if (wrap64 (x8_1 + 1)) < (l1.length : Int) then (if 0 ≤ (wrap64 (x8_1 + 1)) then (if (rdOf ByteArray.empty l0 (wrap64 (x8_1 + 1))).toList = ([] : List UInt8) then (if x7_1.size + x9_3.size ≤ 9223372036854775807 then (if (x7_1 ++ x9_3).size + 2 ≤ 9223372036854775807 then (scriptoriumlaw01_RunesJoin.l0 kj8 l0 l1 t117 y122 ((x7_1 ++ x9_3) ++ (⟨#[13, 10]⟩ : ByteArray)) (wrap64 (x8_1 + 1))) else (none)) else (none)) else (if 0 < ((rdOf ByteArray.empty l0 (wrap64 (x8_1 + 1))).size : Int) then (if (bt (rdOf ByteArray.empty l0 (wrap64 (x8_1 + 1))) 0) = 10 then (if x7_1.size + x9_3.size ≤ 9223372036854775807 then (if (x7_1 ++ x9_3).size + 2 ≤ 9223372036854775807 then (scriptoriumlaw01_RunesJoin.l0 kj8 l0 l1 t117 y122 ((x7_1 ++ x9_3) ++ (⟨#[13, 10]⟩ : ByteArray)) (wrap64 (x8_1 + 1))) else (none)) else (none)) else (if (bt (rdOf ByteArray.empty l0 (wrap64 (x8_1 + 1))) 0) = 13 then (if x7_1.size + x9_3.size ≤ 9223372036854775807 then (if (x7_1 ++ x9_3).size + 2 ≤ 9223372036854775807 then (scriptoriumlaw01_RunesJoin.l0 kj8 l0 l1 t117 y122 ((x7_1 ++ x9_3) ++ (⟨#[13, 10]⟩ : ByteArray)) (wrap64 (x8_1 + 1))) else (none)) else (none)) else (if x7_1.size + x9_3.size ≤ 9223372036854775807 then (if (x7_1 ++ x9_3).size + 1 ≤ 9223372036854775807 then (scriptoriumlaw01_RunesJoin.l0 kj8 l0 l1 t117 y122 ((x7_1 ++ x9_3) ++ (⟨#[13]⟩ : ByteArray)) (wrap64 (x8_1 + 1))) else (none)) else (none)))) else (none))) else (none)) else (if x7_1.size + x9_3.size ≤ 9223372036854775807 then (if (x7_1 ++ x9_3).size + 2 ≤ 9223372036854775807 then (scriptoriumlaw01_RunesJoin.l0 kj8 l0 l1 t117 y122 ((x7_1 ++ x9_3) ++ (⟨#[13, 10]⟩ : ByteArray)) (wrap64 (x8_1 + 1))) else (none)) else (none))) else (if x7_1.size + x9_3.size ≤ 9223372036854775807 then (if (x7_1 ++ x9_3).size + 2 ≤ 9223372036854775807 then (scriptoriumlaw01_RunesJoin.l0 kj8 l0 l1 t117 y122 ((x7_1 ++ x9_3) ++ (⟨#[13, 10]⟩ : ByteArray)) (wrap64 (x8_1 + 1))) else (none)) else (none))) else (if x7_1.size + x9_3.size ≤ 9223372036854775807 then (if (x7_1 ++ x9_3).size + 2 ≤ 9223372036854775807 then (scriptoriumlaw01_RunesJoin.l0 kj8 l0 l1 t117 y122 ((x7_1 ++ x9_3) ++ (⟨#[13, 10]⟩ : ByteArray)) (wrap64 (x8_1 + 1))) else (none)) else (none))) else (if (Go.bits .and .i64 (rd l1 x8_1) 3) = 2 then (if (wrap64 (x8_1 + 1)) < (l0.length : Int) then (if (wrap64 (x8_1 + 1)) < (l1.length : Int) then (if 0 ≤ (wrap64 (x8_1 + 1)) then (if (rdOf ByteArray.empty l0 (wrap64 (x8_1 + 1))).toList = ([] : List UInt8) then (if x7_1.size + x9_3.size ≤ 9223372036854775807 then (if (x7_1 ++ x9_3).size + 1 ≤ 9223372036854775807 then (scriptoriumlaw01_RunesJoin.l0 kj8 l0 l1 t117 y122 ((x7_1 ++ x9_3) ++ (⟨#[10]⟩ : ByteArray)) (wrap64 (x8_1 + 1))) else (none)) else (none)) else (if 0 < ((rdOf ByteArray.empty l0 (wrap64 (x8_1 + 1))).size : Int) then (if (bt (rdOf ByteArray.empty l0 (wrap64 (x8_1 + 1))) 0) = 10 then (if x7_1.size + x9_3.size ≤ 9223372036854775807 then (if (x7_1 ++ x9_3).size + 1 ≤ 9223372036854775807 then (scriptoriumlaw01_RunesJoin.l0 kj8 l0 l1 t117 y122 ((x7_1 ++ x9_3) ++ (⟨#[10]⟩ : ByteArray)) (wrap64 (x8_1 + 1))) else (none)) else (none)) else (if (bt (rdOf ByteArray.empty l0 (wrap64 (x8_1 + 1))) 0) = 13 then (if x7_1.size + x9_3.size ≤ 9223372036854775807 then (if (x7_1 ++ x9_3).size + 1 ≤ 9223372036854775807 then (scriptoriumlaw01_RunesJoin.l0 kj8 l0 l1 t117 y122 ((x7_1 ++ x9_3) ++ (⟨#[10]⟩ : ByteArray)) (wrap64 (x8_1 + 1))) else (none)) else (none)) else (if x7_1.size + x9_3.size ≤ 9223372036854775807 then (if (x7_1 ++ x9_3).size + 1 ≤ 9223372036854775807 then (scriptoriumlaw01_RunesJoin.l0 kj8 l0 l1 t117 y122 ((x7_1 ++ x9_3) ++ (⟨#[13]⟩ : ByteArray)) (wrap64 (x8_1 + 1))) else (none)) else (none)))) else (none))) else (none)) else (if x7_1.size + x9_3.size ≤ 9223372036854775807 then (if (x7_1 ++ x9_3).size + 1 ≤ 9223372036854775807 then (scriptoriumlaw01_RunesJoin.l0 kj8 l0 l1 t117 y122 ((x7_1 ++ x9_3) ++ (⟨#[10]⟩ : ByteArray)) (wrap64 (x8_1 + 1))) else (none)) else (none))) else (if x7_1.size + x9_3.size ≤ 9223372036854775807 then (if (x7_1 ++ x9_3).size + 1 ≤ 9223372036854775807 then (scriptoriumlaw01_RunesJoin.l0 kj8 l0 l1 t117 y122 ((x7_1 ++ x9_3) ++ (⟨#[10]⟩ : ByteArray)) (wrap64 (x8_1 + 1))) else (none)) else (none))) else (if x7_1.size + x9_3.size ≤ 9223372036854775807 then (if (x7_1 ++ x9_3).size + 1 ≤ 9223372036854775807 then (scriptoriumlaw01_RunesJoin.l0 kj8 l0 l1 t117 y122 ((x7_1 ++ x9_3) ++ (⟨#[10]⟩ : ByteArray)) (wrap64 (x8_1 + 1))) else (none)) else (none)))) else (none)) else (none)) = some r := by first | (rw [hy122]; with_reducible exact H) | (have H2_ := (Option.bind_some _ _).symm.trans H; rw [hy122]; with_reducible exact H2_) | (have H2_ := (Option.bind_some _ _).symm.trans H; with_reducible exact H2_) | with_reducible exact H | (rw [hy122]; exact H) | exact H
                        have Ny122 := Aside0.mk hy122
                        clear hy122
                        by_cases c27 : 0 ≤ x8_1
                        · rw [if_pos c27] at H
                          have c27b0 : decide (0 ≤ x8_1) = true := decide_eq_true c27
                          clear c27
                          by_cases c28 : x8_1 < (l1.length : Int)
                          · rw [if_pos c28] at H
                            have c28b0 : decide (x8_1 < (l1.length : Int)) = true := decide_eq_true c28
                            clear c28
                            by_cases c29 : (Go.bits .and .i64 (rd l1 x8_1) 3) = 1
                            · rw [if_pos c29] at H
                              have c29b0 : ((Go.bits .and .i64 (rd l1 x8_1) 3) == 1) = true := beq_iff_eq.mpr c29
                              have c29b1 : ((Go.bits .and .i64 (rd l1 x8_1) 3) != 1) = false := bne_eq_false_iff_eq.mpr c29
                              clear c29
                              by_cases c30 : (Go.bits .and .i64 (rd l1 x8_1) 3) = 2
                              · rw [if_pos c30] at H
                                have c30b0 : ((Go.bits .and .i64 (rd l1 x8_1) 3) == 2) = true := beq_iff_eq.mpr c30
                                have c30b1 : ((Go.bits .and .i64 (rd l1 x8_1) 3) != 2) = false := bne_eq_false_iff_eq.mpr c30
                                clear c30
                                by_cases c31 : (wrap64 (x8_1 + 1)) < (l0.length : Int)
                                · rw [if_pos c31] at H
                                  have c31b0 : decide ((wrap64 (x8_1 + 1)) < (l0.length : Int)) = true := decide_eq_true c31
                                  clear c31
                                  by_cases c32 : (wrap64 (x8_1 + 1)) < (l1.length : Int)
                                  · rw [if_pos c32] at H
                                    have c32b0 : decide ((wrap64 (x8_1 + 1)) < (l1.length : Int)) = true := decide_eq_true c32
                                    clear c32
                                    obtain ⟨ji33, hji33⟩ : ∃ j_ : Int, (wrap64 (x8_1 + 1)) = j_ := ⟨_, rfl⟩
                                    replace H : (if 0 ≤ (ji33) then (if (rdOf ByteArray.empty l0 (ji33)).toList = ([] : List UInt8) then (if x7_1.size + x9_3.size ≤ 9223372036854775807 then (if (x7_1 ++ x9_3).size + 2 ≤ 9223372036854775807 then (scriptoriumlaw01_RunesJoin.l0 kj8 l0 l1 t117 y122 ((x7_1 ++ x9_3) ++ (⟨#[13, 10]⟩ : ByteArray)) ji33) else (none)) else (none)) else (if 0 < ((rdOf ByteArray.empty l0 (ji33)).size : Int) then (if (bt (rdOf ByteArray.empty l0 (ji33)) 0) = 10 then (if x7_1.size + x9_3.size ≤ 9223372036854775807 then (if (x7_1 ++ x9_3).size + 2 ≤ 9223372036854775807 then (scriptoriumlaw01_RunesJoin.l0 kj8 l0 l1 t117 y122 ((x7_1 ++ x9_3) ++ (⟨#[13, 10]⟩ : ByteArray)) ji33) else (none)) else (none)) else (if (bt (rdOf ByteArray.empty l0 (ji33)) 0) = 13 then (if x7_1.size + x9_3.size ≤ 9223372036854775807 then (if (x7_1 ++ x9_3).size + 2 ≤ 9223372036854775807 then (scriptoriumlaw01_RunesJoin.l0 kj8 l0 l1 t117 y122 ((x7_1 ++ x9_3) ++ (⟨#[13, 10]⟩ : ByteArray)) ji33) else (none)) else (none)) else (if x7_1.size + x9_3.size ≤ 9223372036854775807 then (if (x7_1 ++ x9_3).size + 1 ≤ 9223372036854775807 then (scriptoriumlaw01_RunesJoin.l0 kj8 l0 l1 t117 y122 ((x7_1 ++ x9_3) ++ (⟨#[13]⟩ : ByteArray)) ji33) else (none)) else (none)))) else (none))) else (none)) = some r := by first | (rw [hji33] at H; exact H) | (simp only [hji33] at H ⊢; exact H)
                                    (try rw [hji33] at c31b0)
                                    (try rw [hji33] at c32b0)
                                    have hji33w : (IntKind.i64.wrap (x8_1 + 1)) = ji33 := (i64_w _).trans hji33
                                    by_cases c34 : 0 ≤ (ji33)
                                    · rw [if_pos c34] at H
                                      have c34b0 : decide (0 ≤ (ji33)) = true := decide_eq_true c34
                                      clear c34
                                      by_cases c35 : (rdOf ByteArray.empty l0 (ji33)).toList = ([] : List UInt8)
                                      · rw [if_pos c35] at H
                                        have c35b0 : ((rdOf ByteArray.empty l0 (ji33)).toList == ([] : List UInt8)) = true := beq_iff_eq.mpr c35
                                        have c35b1 : ((rdOf ByteArray.empty l0 (ji33)).toList != ([] : List UInt8)) = false := bne_eq_false_iff_eq.mpr c35
                                        clear c35
                                        by_cases c36 : x7_1.size + x9_3.size ≤ 9223372036854775807
                                        · rw [if_pos c36] at H
                                          have c36b0 := eq_true c36
                                          have c36b1 : decide (x7_1.size + x9_3.size ≤ 9223372036854775807) = true := decide_eq_true c36
                                          try have c36b2 : (9223372036854775807 < x7_1.size + x9_3.size) = False := eq_false (Nat.not_lt.2 c36)
                                          by_cases c37 : (x7_1 ++ x9_3).size + 2 ≤ 9223372036854775807
                                          · rw [if_pos c37] at H
                                            have c37b0 := eq_true c37
                                            have c37b1 : decide ((x7_1 ++ x9_3).size + 2 ≤ 9223372036854775807) = true := decide_eq_true c37
                                            have c37s : x7_1.size + x9_3.size + 2 ≤ 9223372036854775807 := by rw [← ByteArray.size_append]; exact c37
                                            have c37s0 := eq_true c37s
                                            have c37s1 : decide (x7_1.size + x9_3.size + 2 ≤ 9223372036854775807) = true := decide_eq_true c37s
                                            have c37s2 : (9223372036854775807 < x7_1.size + x9_3.size + 2) = False := eq_false (Nat.not_lt.2 c37s)
                                            try have c37b2 : (9223372036854775807 < (x7_1 ++ x9_3).size + 2) = False := eq_false (Nat.not_lt.2 c37)
                                            have H' := Aside0.mk H
                                            clear H
                                            go_wp2_with (first | ((with_reducible refine gate_builtin (b := .append) (xs := #[.tmp 70, .tmp 72]) rfl ?_); (try (refine gate_guard (by rfl) ?_; dsimp only)); at_builtin; refine Kd.R_append Kd.string (w0 := w) w.heap.size rfl (.tmp 70) (.tmp 72) 23 9 (.string ⟨#[]⟩) 16 rfl Tryd.underlying23 info9 rfl (by decide) (by omega) u6 x6_1 x9_3 [.string x9_3] (fun _ => True) (fun _ => False) rfl rfl ?aP (fun _ hk => hk.elim) ?aF ?aO ?aB ?aS ?aL ?_; (case aP => exact rfl); (case aB => exact (by repeat (first | (with_reducible first | exact HB.out | apply below_alloc | apply pw_below_drewN | apply below_drew1) | exact HB.out))); (case aF => exact (fun _ _ => trivial)); (case aO => exact (by (with_reducible repeat (first | apply Kd.R_alloc | apply Kd.R_drewN | apply Kd.R_drew)); exact HO_6.out)); (case aS => exact (below_size (by repeat (first | (with_reducible first | exact HB.out | apply below_alloc | apply pw_below_drewN | apply below_drew1) | exact HB.out)))); (case aL => have := LMc26.out; omega); intro v123 w38 ho hb hg hat; rw [← Ny122.out] at ho; have n0_ := Aside0.mk (hb); have n1_ := Aside0.mk (ho); clear HB; clear HO_6; have HB := n0_; have HO124 := n1_; clear n0_ n1_; clear ho hb hg hat; have p125 : 0 ≤ (x8_1 : Int) := of_decide_eq_true (by first | (with_reducible assumption) | assumption); have q125 : x8_1 < (l1.length : Int) := of_decide_eq_true (by first | (with_reducible assumption) | assumption); obtain ⟨ad125, e125, hx125_0⟩ := Kd.at_int HR1.out x8_1 p125 q125; cases e125; replace hx125_0 := (HB.out.cell (World.block_lt_of_cell? w _ hx125_0)).trans hx125_0; replace p125 := eq_true p125; replace q125 := eq_true q125; have p126 : 0 ≤ (x8_1 : Int) := of_decide_eq_true (by first | (with_reducible assumption) | assumption); have q126 : x8_1 < (l1.length : Int) := of_decide_eq_true (by first | (with_reducible assumption) | assumption); obtain ⟨ad126, e126, hx126_0⟩ := Kd.at_int HR1.out x8_1 p126 q126; obtain rfl : ad125 = ad126 := (by injection e126); replace hx126_0 := (HB.out.cell (World.block_lt_of_cell? w _ hx126_0)).trans hx126_0; replace p126 := eq_true p126; replace q126 := eq_true q126; have p127 : 0 ≤ ((ji33) : Int) := of_decide_eq_true (by first | (with_reducible assumption) | assumption); have q127 : (ji33) < (l0.length : Int) := of_decide_eq_true (by first | (with_reducible assumption) | assumption); obtain ⟨ad127, e127, hx127_0⟩ := Kd.at_string HR0.out (ji33) p127 q127; cases e127; replace hx127_0 := (HB.out.cell (World.block_lt_of_cell? w _ hx127_0)).trans hx127_0; replace p127 := eq_true p127; replace q127 := eq_true q127))
                                            repeat (go_quiet (first | ((with_reducible refine gate_builtin (b := .append) (xs := #[.tmp 70, .tmp 72]) rfl ?_); (try (refine gate_guard (by rfl) ?_; dsimp only)); at_builtin; refine Kd.R_append Kd.string (w0 := w) w.heap.size rfl (.tmp 70) (.tmp 72) 23 9 (.string ⟨#[]⟩) 16 rfl Tryd.underlying23 info9 rfl (by decide) (by omega) u6 x6_1 x9_3 [.string x9_3] (fun _ => True) (fun _ => False) rfl rfl ?aP (fun _ hk => hk.elim) ?aF ?aO ?aB ?aS ?aL ?_; (case aP => exact rfl); (case aB => exact (by repeat (first | (with_reducible first | exact HB.out | apply below_alloc | apply pw_below_drewN | apply below_drew1) | exact HB.out))); (case aF => exact (fun _ _ => trivial)); (case aO => exact (by (with_reducible repeat (first | apply Kd.R_alloc | apply Kd.R_drewN | apply Kd.R_drew)); exact HO_6.out)); (case aS => exact (below_size (by repeat (first | (with_reducible first | exact HB.out | apply below_alloc | apply pw_below_drewN | apply below_drew1) | exact HB.out)))); (case aL => have := LMc26.out; omega); intro v123 w38 ho hb hg hat; rw [← Ny122.out] at ho; have n0_ := Aside0.mk (hb); have n1_ := Aside0.mk (ho); clear HB; clear HO_6; have HB := n0_; have HO124 := n1_; clear n0_ n1_; clear ho hb hg hat; have p125 : 0 ≤ (x8_1 : Int) := of_decide_eq_true (by first | (with_reducible assumption) | assumption); have q125 : x8_1 < (l1.length : Int) := of_decide_eq_true (by first | (with_reducible assumption) | assumption); obtain ⟨ad125, e125, hx125_0⟩ := Kd.at_int HR1.out x8_1 p125 q125; cases e125; replace hx125_0 := (HB.out.cell (World.block_lt_of_cell? w _ hx125_0)).trans hx125_0; replace p125 := eq_true p125; replace q125 := eq_true q125; have p126 : 0 ≤ (x8_1 : Int) := of_decide_eq_true (by first | (with_reducible assumption) | assumption); have q126 : x8_1 < (l1.length : Int) := of_decide_eq_true (by first | (with_reducible assumption) | assumption); obtain ⟨ad126, e126, hx126_0⟩ := Kd.at_int HR1.out x8_1 p126 q126; obtain rfl : ad125 = ad126 := (by injection e126); replace hx126_0 := (HB.out.cell (World.block_lt_of_cell? w _ hx126_0)).trans hx126_0; replace p126 := eq_true p126; replace q126 := eq_true q126; have p127 : 0 ≤ ((ji33) : Int) := of_decide_eq_true (by first | (with_reducible assumption) | assumption); have q127 : (ji33) < (l0.length : Int) := of_decide_eq_true (by first | (with_reducible assumption) | assumption); obtain ⟨ad127, e127, hx127_0⟩ := Kd.at_string HR0.out (ji33) p127 q127; cases e127; replace hx127_0 := (HB.out.cell (World.block_lt_of_cell? w _ hx127_0)).trans hx127_0; replace p127 := eq_true p127; replace q127 := eq_true q127)); try go_wp2_with (first | ((with_reducible refine gate_builtin (b := .append) (xs := #[.tmp 70, .tmp 72]) rfl ?_); (try (refine gate_guard (by rfl) ?_; dsimp only)); at_builtin; refine Kd.R_append Kd.string (w0 := w) w.heap.size rfl (.tmp 70) (.tmp 72) 23 9 (.string ⟨#[]⟩) 16 rfl Tryd.underlying23 info9 rfl (by decide) (by omega) u6 x6_1 x9_3 [.string x9_3] (fun _ => True) (fun _ => False) rfl rfl ?aP (fun _ hk => hk.elim) ?aF ?aO ?aB ?aS ?aL ?_; (case aP => exact rfl); (case aB => exact (by repeat (first | (with_reducible first | exact HB.out | apply below_alloc | apply pw_below_drewN | apply below_drew1) | exact HB.out))); (case aF => exact (fun _ _ => trivial)); (case aO => exact (by (with_reducible repeat (first | apply Kd.R_alloc | apply Kd.R_drewN | apply Kd.R_drew)); exact HO_6.out)); (case aS => exact (below_size (by repeat (first | (with_reducible first | exact HB.out | apply below_alloc | apply pw_below_drewN | apply below_drew1) | exact HB.out)))); (case aL => have := LMc26.out; omega); intro v123 w38 ho hb hg hat; rw [← Ny122.out] at ho; have n0_ := Aside0.mk (hb); have n1_ := Aside0.mk (ho); clear HB; clear HO_6; have HB := n0_; have HO124 := n1_; clear n0_ n1_; clear ho hb hg hat; have p125 : 0 ≤ (x8_1 : Int) := of_decide_eq_true (by first | (with_reducible assumption) | assumption); have q125 : x8_1 < (l1.length : Int) := of_decide_eq_true (by first | (with_reducible assumption) | assumption); obtain ⟨ad125, e125, hx125_0⟩ := Kd.at_int HR1.out x8_1 p125 q125; cases e125; replace hx125_0 := (HB.out.cell (World.block_lt_of_cell? w _ hx125_0)).trans hx125_0; replace p125 := eq_true p125; replace q125 := eq_true q125; have p126 : 0 ≤ (x8_1 : Int) := of_decide_eq_true (by first | (with_reducible assumption) | assumption); have q126 : x8_1 < (l1.length : Int) := of_decide_eq_true (by first | (with_reducible assumption) | assumption); obtain ⟨ad126, e126, hx126_0⟩ := Kd.at_int HR1.out x8_1 p126 q126; obtain rfl : ad125 = ad126 := (by injection e126); replace hx126_0 := (HB.out.cell (World.block_lt_of_cell? w _ hx126_0)).trans hx126_0; replace p126 := eq_true p126; replace q126 := eq_true q126; have p127 : 0 ≤ ((ji33) : Int) := of_decide_eq_true (by first | (with_reducible assumption) | assumption); have q127 : (ji33) < (l0.length : Int) := of_decide_eq_true (by first | (with_reducible assumption) | assumption); obtain ⟨ad127, e127, hx127_0⟩ := Kd.at_string HR0.out (ji33) p127 q127; cases e127; replace hx127_0 := (HB.out.cell (World.block_lt_of_cell? w _ hx127_0)).trans hx127_0; replace p127 := eq_true p127; replace q127 := eq_true q127)))
                                            go_roundg kj8
                                            case measure => have := HK1.out; have := HJ4.out; have := HK3.out; have := HJ8.out; omega
                                            case rel => exact ⟨(y122), ((x7_1 ++ x9_3) ++ (⟨#[13, 10]⟩ : ByteArray)), (ji33), (by first | rfl | (simp; done) | (simp [*]; done)), (by first | rfl | (simp; done) | (simp only [← hji33] <;> (first | rfl | simp)) | (simp [*]; done)), H', ⟨by have := HK1.out; have := HJ4.out; have := HK3.out; have := HJ8.out; omega⟩, ⟨by (with_reducible repeat (first | apply Kd.R_alloc | apply Kd.R_drewN | apply Kd.R_drew)); exact HO124.out⟩, ⟨by repeat (first | (with_reducible first | exact HB.out | apply below_alloc | apply pw_below_drewN | apply below_drew1) | exact HB.out)⟩⟩
                                          · rw [if_neg c37] at H
                                            exact absurd H (by simp)
                                        · rw [if_neg c36] at H
                                          exact absurd H (by simp)
                                      · rw [if_neg c35] at H
                                        have c35b0 : ((rdOf ByteArray.empty l0 (ji33)).toList == ([] : List UInt8)) = false := beq_eq_false_iff_ne.mpr c35
                                        have c35b1 : ((rdOf ByteArray.empty l0 (ji33)).toList != ([] : List UInt8)) = true := bne_iff_ne.mpr c35
                                        by_cases c39 : 0 < ((rdOf ByteArray.empty l0 (ji33)).size : Int)
                                        · rw [if_pos c39] at H
                                          have c39b0 : decide (0 < ((rdOf ByteArray.empty l0 (ji33)).size : Int)) = true := decide_eq_true c39
                                          have c39b1 : decide (0 < (rdOf ByteArray.empty l0 (ji33)).size) = true := decide_eq_true (by omega)
                                          clear c39
                                          by_cases c41 : (bt (rdOf ByteArray.empty l0 (ji33)) 0) = 10
                                          · rw [if_pos c41] at H
                                            have c41b0 : ((bt (rdOf ByteArray.empty l0 (ji33)) 0) == 10) = true := beq_iff_eq.mpr c41
                                            have c41b1 : ((bt (rdOf ByteArray.empty l0 (ji33)) 0) != 10) = false := bne_eq_false_iff_eq.mpr c41
                                            clear c41
                                            by_cases c42 : x7_1.size + x9_3.size ≤ 9223372036854775807
                                            · rw [if_pos c42] at H
                                              have c42b0 := eq_true c42
                                              have c42b1 : decide (x7_1.size + x9_3.size ≤ 9223372036854775807) = true := decide_eq_true c42
                                              try have c42b2 : (9223372036854775807 < x7_1.size + x9_3.size) = False := eq_false (Nat.not_lt.2 c42)
                                              by_cases c43 : (x7_1 ++ x9_3).size + 2 ≤ 9223372036854775807
                                              · rw [if_pos c43] at H
                                                have c43b0 := eq_true c43
                                                have c43b1 : decide ((x7_1 ++ x9_3).size + 2 ≤ 9223372036854775807) = true := decide_eq_true c43
                                                have c43s : x7_1.size + x9_3.size + 2 ≤ 9223372036854775807 := by rw [← ByteArray.size_append]; exact c43
                                                have c43s0 := eq_true c43s
                                                have c43s1 : decide (x7_1.size + x9_3.size + 2 ≤ 9223372036854775807) = true := decide_eq_true c43s
                                                have c43s2 : (9223372036854775807 < x7_1.size + x9_3.size + 2) = False := eq_false (Nat.not_lt.2 c43s)
                                                try have c43b2 : (9223372036854775807 < (x7_1 ++ x9_3).size + 2) = False := eq_false (Nat.not_lt.2 c43)
                                                have H' := Aside0.mk H
                                                clear H
                                                go_wp2_with (first | ((with_reducible refine gate_builtin (b := .append) (xs := #[.tmp 70, .tmp 72]) rfl ?_); (try (refine gate_guard (by rfl) ?_; dsimp only)); at_builtin; refine Kd.R_append Kd.string (w0 := w) w.heap.size rfl (.tmp 70) (.tmp 72) 23 9 (.string ⟨#[]⟩) 16 rfl Tryd.underlying23 info9 rfl (by decide) (by omega) u6 x6_1 x9_3 [.string x9_3] (fun _ => True) (fun _ => False) rfl rfl ?aP (fun _ hk => hk.elim) ?aF ?aO ?aB ?aS ?aL ?_; (case aP => exact rfl); (case aB => exact (by repeat (first | (with_reducible first | exact HB.out | apply below_alloc | apply pw_below_drewN | apply below_drew1) | exact HB.out))); (case aF => exact (fun _ _ => trivial)); (case aO => exact (by (with_reducible repeat (first | apply Kd.R_alloc | apply Kd.R_drewN | apply Kd.R_drew)); exact HO_6.out)); (case aS => exact (below_size (by repeat (first | (with_reducible first | exact HB.out | apply below_alloc | apply pw_below_drewN | apply below_drew1) | exact HB.out)))); (case aL => have := LMc26.out; omega); intro v123 w44 ho hb hg hat; rw [← Ny122.out] at ho; have n0_ := Aside0.mk (hb); have n1_ := Aside0.mk (ho); clear HB; clear HO_6; have HB := n0_; have HO124 := n1_; clear n0_ n1_; clear ho hb hg hat; have p125 : 0 ≤ (x8_1 : Int) := of_decide_eq_true (by first | (with_reducible assumption) | assumption); have q125 : x8_1 < (l1.length : Int) := of_decide_eq_true (by first | (with_reducible assumption) | assumption); obtain ⟨ad125, e125, hx125_0⟩ := Kd.at_int HR1.out x8_1 p125 q125; cases e125; replace hx125_0 := (HB.out.cell (World.block_lt_of_cell? w _ hx125_0)).trans hx125_0; replace p125 := eq_true p125; replace q125 := eq_true q125; have p126 : 0 ≤ (x8_1 : Int) := of_decide_eq_true (by first | (with_reducible assumption) | assumption); have q126 : x8_1 < (l1.length : Int) := of_decide_eq_true (by first | (with_reducible assumption) | assumption); obtain ⟨ad126, e126, hx126_0⟩ := Kd.at_int HR1.out x8_1 p126 q126; obtain rfl : ad125 = ad126 := (by injection e126); replace hx126_0 := (HB.out.cell (World.block_lt_of_cell? w _ hx126_0)).trans hx126_0; replace p126 := eq_true p126; replace q126 := eq_true q126; have p127 : 0 ≤ ((ji33) : Int) := of_decide_eq_true (by first | (with_reducible assumption) | assumption); have q127 : (ji33) < (l0.length : Int) := of_decide_eq_true (by first | (with_reducible assumption) | assumption); obtain ⟨ad127, e127, hx127_0⟩ := Kd.at_string HR0.out (ji33) p127 q127; cases e127; replace hx127_0 := (HB.out.cell (World.block_lt_of_cell? w _ hx127_0)).trans hx127_0; replace p127 := eq_true p127; replace q127 := eq_true q127; have p128 : 0 ≤ ((ji33) : Int) := of_decide_eq_true (by first | (with_reducible assumption) | assumption); have q128 : (ji33) < (l0.length : Int) := of_decide_eq_true (by first | (with_reducible assumption) | assumption); obtain ⟨ad128, e128, hx128_0⟩ := Kd.at_string HR0.out (ji33) p128 q128; obtain rfl : ad127 = ad128 := (by injection e128); replace hx128_0 := (HB.out.cell (World.block_lt_of_cell? w _ hx128_0)).trans hx128_0; replace p128 := eq_true p128; replace q128 := eq_true q128; have p40 : 0 ≤ (0 : Int) := (by omega); have q40 : 0 < (rdOf ByteArray.empty l0 (ji33)).size := (by have : (0 : Int) < ((rdOf ByteArray.empty l0 (ji33)).size : Int) := of_decide_eq_true (by first | (with_reducible assumption) | assumption); omega); have hx40 : ∀ h : 0 < (rdOf ByteArray.empty l0 (ji33)).size, (((rdOf ByteArray.empty l0 (ji33))[0]'h).toNat : Int) = bt (rdOf ByteArray.empty l0 (ji33)) 0 := bt_at (rdOf ByteArray.empty l0 (ji33)) 0; clear p40; have qi40 : (0 < ((rdOf ByteArray.empty l0 (ji33)).size : Int)) = True := eq_true (of_decide_eq_true (by first | (with_reducible assumption) | assumption)); replace q40 := eq_true q40))
                                                repeat (go_quiet (first | ((with_reducible refine gate_builtin (b := .append) (xs := #[.tmp 70, .tmp 72]) rfl ?_); (try (refine gate_guard (by rfl) ?_; dsimp only)); at_builtin; refine Kd.R_append Kd.string (w0 := w) w.heap.size rfl (.tmp 70) (.tmp 72) 23 9 (.string ⟨#[]⟩) 16 rfl Tryd.underlying23 info9 rfl (by decide) (by omega) u6 x6_1 x9_3 [.string x9_3] (fun _ => True) (fun _ => False) rfl rfl ?aP (fun _ hk => hk.elim) ?aF ?aO ?aB ?aS ?aL ?_; (case aP => exact rfl); (case aB => exact (by repeat (first | (with_reducible first | exact HB.out | apply below_alloc | apply pw_below_drewN | apply below_drew1) | exact HB.out))); (case aF => exact (fun _ _ => trivial)); (case aO => exact (by (with_reducible repeat (first | apply Kd.R_alloc | apply Kd.R_drewN | apply Kd.R_drew)); exact HO_6.out)); (case aS => exact (below_size (by repeat (first | (with_reducible first | exact HB.out | apply below_alloc | apply pw_below_drewN | apply below_drew1) | exact HB.out)))); (case aL => have := LMc26.out; omega); intro v123 w44 ho hb hg hat; rw [← Ny122.out] at ho; have n0_ := Aside0.mk (hb); have n1_ := Aside0.mk (ho); clear HB; clear HO_6; have HB := n0_; have HO124 := n1_; clear n0_ n1_; clear ho hb hg hat; have p125 : 0 ≤ (x8_1 : Int) := of_decide_eq_true (by first | (with_reducible assumption) | assumption); have q125 : x8_1 < (l1.length : Int) := of_decide_eq_true (by first | (with_reducible assumption) | assumption); obtain ⟨ad125, e125, hx125_0⟩ := Kd.at_int HR1.out x8_1 p125 q125; cases e125; replace hx125_0 := (HB.out.cell (World.block_lt_of_cell? w _ hx125_0)).trans hx125_0; replace p125 := eq_true p125; replace q125 := eq_true q125; have p126 : 0 ≤ (x8_1 : Int) := of_decide_eq_true (by first | (with_reducible assumption) | assumption); have q126 : x8_1 < (l1.length : Int) := of_decide_eq_true (by first | (with_reducible assumption) | assumption); obtain ⟨ad126, e126, hx126_0⟩ := Kd.at_int HR1.out x8_1 p126 q126; obtain rfl : ad125 = ad126 := (by injection e126); replace hx126_0 := (HB.out.cell (World.block_lt_of_cell? w _ hx126_0)).trans hx126_0; replace p126 := eq_true p126; replace q126 := eq_true q126; have p127 : 0 ≤ ((ji33) : Int) := of_decide_eq_true (by first | (with_reducible assumption) | assumption); have q127 : (ji33) < (l0.length : Int) := of_decide_eq_true (by first | (with_reducible assumption) | assumption); obtain ⟨ad127, e127, hx127_0⟩ := Kd.at_string HR0.out (ji33) p127 q127; cases e127; replace hx127_0 := (HB.out.cell (World.block_lt_of_cell? w _ hx127_0)).trans hx127_0; replace p127 := eq_true p127; replace q127 := eq_true q127; have p128 : 0 ≤ ((ji33) : Int) := of_decide_eq_true (by first | (with_reducible assumption) | assumption); have q128 : (ji33) < (l0.length : Int) := of_decide_eq_true (by first | (with_reducible assumption) | assumption); obtain ⟨ad128, e128, hx128_0⟩ := Kd.at_string HR0.out (ji33) p128 q128; obtain rfl : ad127 = ad128 := (by injection e128); replace hx128_0 := (HB.out.cell (World.block_lt_of_cell? w _ hx128_0)).trans hx128_0; replace p128 := eq_true p128; replace q128 := eq_true q128; have p40 : 0 ≤ (0 : Int) := (by omega); have q40 : 0 < (rdOf ByteArray.empty l0 (ji33)).size := (by have : (0 : Int) < ((rdOf ByteArray.empty l0 (ji33)).size : Int) := of_decide_eq_true (by first | (with_reducible assumption) | assumption); omega); have hx40 : ∀ h : 0 < (rdOf ByteArray.empty l0 (ji33)).size, (((rdOf ByteArray.empty l0 (ji33))[0]'h).toNat : Int) = bt (rdOf ByteArray.empty l0 (ji33)) 0 := bt_at (rdOf ByteArray.empty l0 (ji33)) 0; clear p40; have qi40 : (0 < ((rdOf ByteArray.empty l0 (ji33)).size : Int)) = True := eq_true (of_decide_eq_true (by first | (with_reducible assumption) | assumption)); replace q40 := eq_true q40)); try go_wp2_with (first | ((with_reducible refine gate_builtin (b := .append) (xs := #[.tmp 70, .tmp 72]) rfl ?_); (try (refine gate_guard (by rfl) ?_; dsimp only)); at_builtin; refine Kd.R_append Kd.string (w0 := w) w.heap.size rfl (.tmp 70) (.tmp 72) 23 9 (.string ⟨#[]⟩) 16 rfl Tryd.underlying23 info9 rfl (by decide) (by omega) u6 x6_1 x9_3 [.string x9_3] (fun _ => True) (fun _ => False) rfl rfl ?aP (fun _ hk => hk.elim) ?aF ?aO ?aB ?aS ?aL ?_; (case aP => exact rfl); (case aB => exact (by repeat (first | (with_reducible first | exact HB.out | apply below_alloc | apply pw_below_drewN | apply below_drew1) | exact HB.out))); (case aF => exact (fun _ _ => trivial)); (case aO => exact (by (with_reducible repeat (first | apply Kd.R_alloc | apply Kd.R_drewN | apply Kd.R_drew)); exact HO_6.out)); (case aS => exact (below_size (by repeat (first | (with_reducible first | exact HB.out | apply below_alloc | apply pw_below_drewN | apply below_drew1) | exact HB.out)))); (case aL => have := LMc26.out; omega); intro v123 w44 ho hb hg hat; rw [← Ny122.out] at ho; have n0_ := Aside0.mk (hb); have n1_ := Aside0.mk (ho); clear HB; clear HO_6; have HB := n0_; have HO124 := n1_; clear n0_ n1_; clear ho hb hg hat; have p125 : 0 ≤ (x8_1 : Int) := of_decide_eq_true (by first | (with_reducible assumption) | assumption); have q125 : x8_1 < (l1.length : Int) := of_decide_eq_true (by first | (with_reducible assumption) | assumption); obtain ⟨ad125, e125, hx125_0⟩ := Kd.at_int HR1.out x8_1 p125 q125; cases e125; replace hx125_0 := (HB.out.cell (World.block_lt_of_cell? w _ hx125_0)).trans hx125_0; replace p125 := eq_true p125; replace q125 := eq_true q125; have p126 : 0 ≤ (x8_1 : Int) := of_decide_eq_true (by first | (with_reducible assumption) | assumption); have q126 : x8_1 < (l1.length : Int) := of_decide_eq_true (by first | (with_reducible assumption) | assumption); obtain ⟨ad126, e126, hx126_0⟩ := Kd.at_int HR1.out x8_1 p126 q126; obtain rfl : ad125 = ad126 := (by injection e126); replace hx126_0 := (HB.out.cell (World.block_lt_of_cell? w _ hx126_0)).trans hx126_0; replace p126 := eq_true p126; replace q126 := eq_true q126; have p127 : 0 ≤ ((ji33) : Int) := of_decide_eq_true (by first | (with_reducible assumption) | assumption); have q127 : (ji33) < (l0.length : Int) := of_decide_eq_true (by first | (with_reducible assumption) | assumption); obtain ⟨ad127, e127, hx127_0⟩ := Kd.at_string HR0.out (ji33) p127 q127; cases e127; replace hx127_0 := (HB.out.cell (World.block_lt_of_cell? w _ hx127_0)).trans hx127_0; replace p127 := eq_true p127; replace q127 := eq_true q127; have p128 : 0 ≤ ((ji33) : Int) := of_decide_eq_true (by first | (with_reducible assumption) | assumption); have q128 : (ji33) < (l0.length : Int) := of_decide_eq_true (by first | (with_reducible assumption) | assumption); obtain ⟨ad128, e128, hx128_0⟩ := Kd.at_string HR0.out (ji33) p128 q128; obtain rfl : ad127 = ad128 := (by injection e128); replace hx128_0 := (HB.out.cell (World.block_lt_of_cell? w _ hx128_0)).trans hx128_0; replace p128 := eq_true p128; replace q128 := eq_true q128; have p40 : 0 ≤ (0 : Int) := (by omega); have q40 : 0 < (rdOf ByteArray.empty l0 (ji33)).size := (by have : (0 : Int) < ((rdOf ByteArray.empty l0 (ji33)).size : Int) := of_decide_eq_true (by first | (with_reducible assumption) | assumption); omega); have hx40 : ∀ h : 0 < (rdOf ByteArray.empty l0 (ji33)).size, (((rdOf ByteArray.empty l0 (ji33))[0]'h).toNat : Int) = bt (rdOf ByteArray.empty l0 (ji33)) 0 := bt_at (rdOf ByteArray.empty l0 (ji33)) 0; clear p40; have qi40 : (0 < ((rdOf ByteArray.empty l0 (ji33)).size : Int)) = True := eq_true (of_decide_eq_true (by first | (with_reducible assumption) | assumption)); replace q40 := eq_true q40)))
                                                go_roundg kj8
                                                case measure => have := HK1.out; have := HJ4.out; have := HK3.out; have := HJ8.out; omega
                                                case rel => exact ⟨(y122), ((x7_1 ++ x9_3) ++ (⟨#[13, 10]⟩ : ByteArray)), (ji33), (by first | rfl | (simp; done) | (simp [*]; done)), (by first | rfl | (simp; done) | (simp only [← hji33] <;> (first | rfl | simp)) | (simp [*]; done)), H', ⟨by have := HK1.out; have := HJ4.out; have := HK3.out; have := HJ8.out; omega⟩, ⟨by (with_reducible repeat (first | apply Kd.R_alloc | apply Kd.R_drewN | apply Kd.R_drew)); exact HO124.out⟩, ⟨by repeat (first | (with_reducible first | exact HB.out | apply below_alloc | apply pw_below_drewN | apply below_drew1) | exact HB.out)⟩⟩
                                              · rw [if_neg c43] at H
                                                exact absurd H (by simp)
                                            · rw [if_neg c42] at H
                                              exact absurd H (by simp)
                                          · rw [if_neg c41] at H
                                            have c41b0 : ((bt (rdOf ByteArray.empty l0 (ji33)) 0) == 10) = false := beq_eq_false_iff_ne.mpr c41
                                            have c41b1 : ((bt (rdOf ByteArray.empty l0 (ji33)) 0) != 10) = true := bne_iff_ne.mpr c41
                                            by_cases c46 : (bt (rdOf ByteArray.empty l0 (ji33)) 0) = 13
                                            · rw [if_pos c46] at H
                                              have c46b0 : ((bt (rdOf ByteArray.empty l0 (ji33)) 0) == 13) = true := beq_iff_eq.mpr c46
                                              have c46b1 : ((bt (rdOf ByteArray.empty l0 (ji33)) 0) != 13) = false := bne_eq_false_iff_eq.mpr c46
                                              clear c46
                                              by_cases c47 : x7_1.size + x9_3.size ≤ 9223372036854775807
                                              · rw [if_pos c47] at H
                                                have c47b0 := eq_true c47
                                                have c47b1 : decide (x7_1.size + x9_3.size ≤ 9223372036854775807) = true := decide_eq_true c47
                                                try have c47b2 : (9223372036854775807 < x7_1.size + x9_3.size) = False := eq_false (Nat.not_lt.2 c47)
                                                by_cases c48 : (x7_1 ++ x9_3).size + 2 ≤ 9223372036854775807
                                                · rw [if_pos c48] at H
                                                  have c48b0 := eq_true c48
                                                  have c48b1 : decide ((x7_1 ++ x9_3).size + 2 ≤ 9223372036854775807) = true := decide_eq_true c48
                                                  have c48s : x7_1.size + x9_3.size + 2 ≤ 9223372036854775807 := by rw [← ByteArray.size_append]; exact c48
                                                  have c48s0 := eq_true c48s
                                                  have c48s1 : decide (x7_1.size + x9_3.size + 2 ≤ 9223372036854775807) = true := decide_eq_true c48s
                                                  have c48s2 : (9223372036854775807 < x7_1.size + x9_3.size + 2) = False := eq_false (Nat.not_lt.2 c48s)
                                                  try have c48b2 : (9223372036854775807 < (x7_1 ++ x9_3).size + 2) = False := eq_false (Nat.not_lt.2 c48)
                                                  have H' := Aside0.mk H
                                                  clear H
                                                  go_wp2_with (first | ((with_reducible refine gate_builtin (b := .append) (xs := #[.tmp 70, .tmp 72]) rfl ?_); (try (refine gate_guard (by rfl) ?_; dsimp only)); at_builtin; refine Kd.R_append Kd.string (w0 := w) w.heap.size rfl (.tmp 70) (.tmp 72) 23 9 (.string ⟨#[]⟩) 16 rfl Tryd.underlying23 info9 rfl (by decide) (by omega) u6 x6_1 x9_3 [.string x9_3] (fun _ => True) (fun _ => False) rfl rfl ?aP (fun _ hk => hk.elim) ?aF ?aO ?aB ?aS ?aL ?_; (case aP => exact rfl); (case aB => exact (by repeat (first | (with_reducible first | exact HB.out | apply below_alloc | apply pw_below_drewN | apply below_drew1) | exact HB.out))); (case aF => exact (fun _ _ => trivial)); (case aO => exact (by (with_reducible repeat (first | apply Kd.R_alloc | apply Kd.R_drewN | apply Kd.R_drew)); exact HO_6.out)); (case aS => exact (below_size (by repeat (first | (with_reducible first | exact HB.out | apply below_alloc | apply pw_below_drewN | apply below_drew1) | exact HB.out)))); (case aL => have := LMc26.out; omega); intro v123 w49 ho hb hg hat; rw [← Ny122.out] at ho; have n0_ := Aside0.mk (hb); have n1_ := Aside0.mk (ho); clear HB; clear HO_6; have HB := n0_; have HO124 := n1_; clear n0_ n1_; clear ho hb hg hat; have p125 : 0 ≤ (x8_1 : Int) := of_decide_eq_true (by first | (with_reducible assumption) | assumption); have q125 : x8_1 < (l1.length : Int) := of_decide_eq_true (by first | (with_reducible assumption) | assumption); obtain ⟨ad125, e125, hx125_0⟩ := Kd.at_int HR1.out x8_1 p125 q125; cases e125; replace hx125_0 := (HB.out.cell (World.block_lt_of_cell? w _ hx125_0)).trans hx125_0; replace p125 := eq_true p125; replace q125 := eq_true q125; have p126 : 0 ≤ (x8_1 : Int) := of_decide_eq_true (by first | (with_reducible assumption) | assumption); have q126 : x8_1 < (l1.length : Int) := of_decide_eq_true (by first | (with_reducible assumption) | assumption); obtain ⟨ad126, e126, hx126_0⟩ := Kd.at_int HR1.out x8_1 p126 q126; obtain rfl : ad125 = ad126 := (by injection e126); replace hx126_0 := (HB.out.cell (World.block_lt_of_cell? w _ hx126_0)).trans hx126_0; replace p126 := eq_true p126; replace q126 := eq_true q126; have p127 : 0 ≤ ((ji33) : Int) := of_decide_eq_true (by first | (with_reducible assumption) | assumption); have q127 : (ji33) < (l0.length : Int) := of_decide_eq_true (by first | (with_reducible assumption) | assumption); obtain ⟨ad127, e127, hx127_0⟩ := Kd.at_string HR0.out (ji33) p127 q127; cases e127; replace hx127_0 := (HB.out.cell (World.block_lt_of_cell? w _ hx127_0)).trans hx127_0; replace p127 := eq_true p127; replace q127 := eq_true q127; have p128 : 0 ≤ ((ji33) : Int) := of_decide_eq_true (by first | (with_reducible assumption) | assumption); have q128 : (ji33) < (l0.length : Int) := of_decide_eq_true (by first | (with_reducible assumption) | assumption); obtain ⟨ad128, e128, hx128_0⟩ := Kd.at_string HR0.out (ji33) p128 q128; obtain rfl : ad127 = ad128 := (by injection e128); replace hx128_0 := (HB.out.cell (World.block_lt_of_cell? w _ hx128_0)).trans hx128_0; replace p128 := eq_true p128; replace q128 := eq_true q128; have p40 : 0 ≤ (0 : Int) := (by omega); have q40 : 0 < (rdOf ByteArray.empty l0 (ji33)).size := (by have : (0 : Int) < ((rdOf ByteArray.empty l0 (ji33)).size : Int) := of_decide_eq_true (by first | (with_reducible assumption) | assumption); omega); have hx40 : ∀ h : 0 < (rdOf ByteArray.empty l0 (ji33)).size, (((rdOf ByteArray.empty l0 (ji33))[0]'h).toNat : Int) = bt (rdOf ByteArray.empty l0 (ji33)) 0 := bt_at (rdOf ByteArray.empty l0 (ji33)) 0; clear p40; have qi40 : (0 < ((rdOf ByteArray.empty l0 (ji33)).size : Int)) = True := eq_true (of_decide_eq_true (by first | (with_reducible assumption) | assumption)); replace q40 := eq_true q40; have p129 : 0 ≤ ((ji33) : Int) := of_decide_eq_true (by first | (with_reducible assumption) | assumption); have q129 : (ji33) < (l0.length : Int) := of_decide_eq_true (by first | (with_reducible assumption) | assumption); obtain ⟨ad129, e129, hx129_0⟩ := Kd.at_string HR0.out (ji33) p129 q129; obtain rfl : ad127 = ad129 := (by injection e129); replace hx129_0 := (HB.out.cell (World.block_lt_of_cell? w _ hx129_0)).trans hx129_0; replace p129 := eq_true p129; replace q129 := eq_true q129; have p45 : 0 ≤ (0 : Int) := (by omega); have q45 : 0 < (rdOf ByteArray.empty l0 (ji33)).size := (by have : (0 : Int) < ((rdOf ByteArray.empty l0 (ji33)).size : Int) := of_decide_eq_true (by first | (with_reducible assumption) | assumption); omega); have hx45 : ∀ h : 0 < (rdOf ByteArray.empty l0 (ji33)).size, (((rdOf ByteArray.empty l0 (ji33))[0]'h).toNat : Int) = bt (rdOf ByteArray.empty l0 (ji33)) 0 := bt_at (rdOf ByteArray.empty l0 (ji33)) 0; clear p45; have qi45 : (0 < ((rdOf ByteArray.empty l0 (ji33)).size : Int)) = True := eq_true (of_decide_eq_true (by first | (with_reducible assumption) | assumption)); replace q45 := eq_true q45))
                                                  repeat (go_quiet (first | ((with_reducible refine gate_builtin (b := .append) (xs := #[.tmp 70, .tmp 72]) rfl ?_); (try (refine gate_guard (by rfl) ?_; dsimp only)); at_builtin; refine Kd.R_append Kd.string (w0 := w) w.heap.size rfl (.tmp 70) (.tmp 72) 23 9 (.string ⟨#[]⟩) 16 rfl Tryd.underlying23 info9 rfl (by decide) (by omega) u6 x6_1 x9_3 [.string x9_3] (fun _ => True) (fun _ => False) rfl rfl ?aP (fun _ hk => hk.elim) ?aF ?aO ?aB ?aS ?aL ?_; (case aP => exact rfl); (case aB => exact (by repeat (first | (with_reducible first | exact HB.out | apply below_alloc | apply pw_below_drewN | apply below_drew1) | exact HB.out))); (case aF => exact (fun _ _ => trivial)); (case aO => exact (by (with_reducible repeat (first | apply Kd.R_alloc | apply Kd.R_drewN | apply Kd.R_drew)); exact HO_6.out)); (case aS => exact (below_size (by repeat (first | (with_reducible first | exact HB.out | apply below_alloc | apply pw_below_drewN | apply below_drew1) | exact HB.out)))); (case aL => have := LMc26.out; omega); intro v123 w49 ho hb hg hat; rw [← Ny122.out] at ho; have n0_ := Aside0.mk (hb); have n1_ := Aside0.mk (ho); clear HB; clear HO_6; have HB := n0_; have HO124 := n1_; clear n0_ n1_; clear ho hb hg hat; have p125 : 0 ≤ (x8_1 : Int) := of_decide_eq_true (by first | (with_reducible assumption) | assumption); have q125 : x8_1 < (l1.length : Int) := of_decide_eq_true (by first | (with_reducible assumption) | assumption); obtain ⟨ad125, e125, hx125_0⟩ := Kd.at_int HR1.out x8_1 p125 q125; cases e125; replace hx125_0 := (HB.out.cell (World.block_lt_of_cell? w _ hx125_0)).trans hx125_0; replace p125 := eq_true p125; replace q125 := eq_true q125; have p126 : 0 ≤ (x8_1 : Int) := of_decide_eq_true (by first | (with_reducible assumption) | assumption); have q126 : x8_1 < (l1.length : Int) := of_decide_eq_true (by first | (with_reducible assumption) | assumption); obtain ⟨ad126, e126, hx126_0⟩ := Kd.at_int HR1.out x8_1 p126 q126; obtain rfl : ad125 = ad126 := (by injection e126); replace hx126_0 := (HB.out.cell (World.block_lt_of_cell? w _ hx126_0)).trans hx126_0; replace p126 := eq_true p126; replace q126 := eq_true q126; have p127 : 0 ≤ ((ji33) : Int) := of_decide_eq_true (by first | (with_reducible assumption) | assumption); have q127 : (ji33) < (l0.length : Int) := of_decide_eq_true (by first | (with_reducible assumption) | assumption); obtain ⟨ad127, e127, hx127_0⟩ := Kd.at_string HR0.out (ji33) p127 q127; cases e127; replace hx127_0 := (HB.out.cell (World.block_lt_of_cell? w _ hx127_0)).trans hx127_0; replace p127 := eq_true p127; replace q127 := eq_true q127; have p128 : 0 ≤ ((ji33) : Int) := of_decide_eq_true (by first | (with_reducible assumption) | assumption); have q128 : (ji33) < (l0.length : Int) := of_decide_eq_true (by first | (with_reducible assumption) | assumption); obtain ⟨ad128, e128, hx128_0⟩ := Kd.at_string HR0.out (ji33) p128 q128; obtain rfl : ad127 = ad128 := (by injection e128); replace hx128_0 := (HB.out.cell (World.block_lt_of_cell? w _ hx128_0)).trans hx128_0; replace p128 := eq_true p128; replace q128 := eq_true q128; have p40 : 0 ≤ (0 : Int) := (by omega); have q40 : 0 < (rdOf ByteArray.empty l0 (ji33)).size := (by have : (0 : Int) < ((rdOf ByteArray.empty l0 (ji33)).size : Int) := of_decide_eq_true (by first | (with_reducible assumption) | assumption); omega); have hx40 : ∀ h : 0 < (rdOf ByteArray.empty l0 (ji33)).size, (((rdOf ByteArray.empty l0 (ji33))[0]'h).toNat : Int) = bt (rdOf ByteArray.empty l0 (ji33)) 0 := bt_at (rdOf ByteArray.empty l0 (ji33)) 0; clear p40; have qi40 : (0 < ((rdOf ByteArray.empty l0 (ji33)).size : Int)) = True := eq_true (of_decide_eq_true (by first | (with_reducible assumption) | assumption)); replace q40 := eq_true q40; have p129 : 0 ≤ ((ji33) : Int) := of_decide_eq_true (by first | (with_reducible assumption) | assumption); have q129 : (ji33) < (l0.length : Int) := of_decide_eq_true (by first | (with_reducible assumption) | assumption); obtain ⟨ad129, e129, hx129_0⟩ := Kd.at_string HR0.out (ji33) p129 q129; obtain rfl : ad127 = ad129 := (by injection e129); replace hx129_0 := (HB.out.cell (World.block_lt_of_cell? w _ hx129_0)).trans hx129_0; replace p129 := eq_true p129; replace q129 := eq_true q129; have p45 : 0 ≤ (0 : Int) := (by omega); have q45 : 0 < (rdOf ByteArray.empty l0 (ji33)).size := (by have : (0 : Int) < ((rdOf ByteArray.empty l0 (ji33)).size : Int) := of_decide_eq_true (by first | (with_reducible assumption) | assumption); omega); have hx45 : ∀ h : 0 < (rdOf ByteArray.empty l0 (ji33)).size, (((rdOf ByteArray.empty l0 (ji33))[0]'h).toNat : Int) = bt (rdOf ByteArray.empty l0 (ji33)) 0 := bt_at (rdOf ByteArray.empty l0 (ji33)) 0; clear p45; have qi45 : (0 < ((rdOf ByteArray.empty l0 (ji33)).size : Int)) = True := eq_true (of_decide_eq_true (by first | (with_reducible assumption) | assumption)); replace q45 := eq_true q45)); try go_wp2_with (first | ((with_reducible refine gate_builtin (b := .append) (xs := #[.tmp 70, .tmp 72]) rfl ?_); (try (refine gate_guard (by rfl) ?_; dsimp only)); at_builtin; refine Kd.R_append Kd.string (w0 := w) w.heap.size rfl (.tmp 70) (.tmp 72) 23 9 (.string ⟨#[]⟩) 16 rfl Tryd.underlying23 info9 rfl (by decide) (by omega) u6 x6_1 x9_3 [.string x9_3] (fun _ => True) (fun _ => False) rfl rfl ?aP (fun _ hk => hk.elim) ?aF ?aO ?aB ?aS ?aL ?_; (case aP => exact rfl); (case aB => exact (by repeat (first | (with_reducible first | exact HB.out | apply below_alloc | apply pw_below_drewN | apply below_drew1) | exact HB.out))); (case aF => exact (fun _ _ => trivial)); (case aO => exact (by (with_reducible repeat (first | apply Kd.R_alloc | apply Kd.R_drewN | apply Kd.R_drew)); exact HO_6.out)); (case aS => exact (below_size (by repeat (first | (with_reducible first | exact HB.out | apply below_alloc | apply pw_below_drewN | apply below_drew1) | exact HB.out)))); (case aL => have := LMc26.out; omega); intro v123 w49 ho hb hg hat; rw [← Ny122.out] at ho; have n0_ := Aside0.mk (hb); have n1_ := Aside0.mk (ho); clear HB; clear HO_6; have HB := n0_; have HO124 := n1_; clear n0_ n1_; clear ho hb hg hat; have p125 : 0 ≤ (x8_1 : Int) := of_decide_eq_true (by first | (with_reducible assumption) | assumption); have q125 : x8_1 < (l1.length : Int) := of_decide_eq_true (by first | (with_reducible assumption) | assumption); obtain ⟨ad125, e125, hx125_0⟩ := Kd.at_int HR1.out x8_1 p125 q125; cases e125; replace hx125_0 := (HB.out.cell (World.block_lt_of_cell? w _ hx125_0)).trans hx125_0; replace p125 := eq_true p125; replace q125 := eq_true q125; have p126 : 0 ≤ (x8_1 : Int) := of_decide_eq_true (by first | (with_reducible assumption) | assumption); have q126 : x8_1 < (l1.length : Int) := of_decide_eq_true (by first | (with_reducible assumption) | assumption); obtain ⟨ad126, e126, hx126_0⟩ := Kd.at_int HR1.out x8_1 p126 q126; obtain rfl : ad125 = ad126 := (by injection e126); replace hx126_0 := (HB.out.cell (World.block_lt_of_cell? w _ hx126_0)).trans hx126_0; replace p126 := eq_true p126; replace q126 := eq_true q126; have p127 : 0 ≤ ((ji33) : Int) := of_decide_eq_true (by first | (with_reducible assumption) | assumption); have q127 : (ji33) < (l0.length : Int) := of_decide_eq_true (by first | (with_reducible assumption) | assumption); obtain ⟨ad127, e127, hx127_0⟩ := Kd.at_string HR0.out (ji33) p127 q127; cases e127; replace hx127_0 := (HB.out.cell (World.block_lt_of_cell? w _ hx127_0)).trans hx127_0; replace p127 := eq_true p127; replace q127 := eq_true q127; have p128 : 0 ≤ ((ji33) : Int) := of_decide_eq_true (by first | (with_reducible assumption) | assumption); have q128 : (ji33) < (l0.length : Int) := of_decide_eq_true (by first | (with_reducible assumption) | assumption); obtain ⟨ad128, e128, hx128_0⟩ := Kd.at_string HR0.out (ji33) p128 q128; obtain rfl : ad127 = ad128 := (by injection e128); replace hx128_0 := (HB.out.cell (World.block_lt_of_cell? w _ hx128_0)).trans hx128_0; replace p128 := eq_true p128; replace q128 := eq_true q128; have p40 : 0 ≤ (0 : Int) := (by omega); have q40 : 0 < (rdOf ByteArray.empty l0 (ji33)).size := (by have : (0 : Int) < ((rdOf ByteArray.empty l0 (ji33)).size : Int) := of_decide_eq_true (by first | (with_reducible assumption) | assumption); omega); have hx40 : ∀ h : 0 < (rdOf ByteArray.empty l0 (ji33)).size, (((rdOf ByteArray.empty l0 (ji33))[0]'h).toNat : Int) = bt (rdOf ByteArray.empty l0 (ji33)) 0 := bt_at (rdOf ByteArray.empty l0 (ji33)) 0; clear p40; have qi40 : (0 < ((rdOf ByteArray.empty l0 (ji33)).size : Int)) = True := eq_true (of_decide_eq_true (by first | (with_reducible assumption) | assumption)); replace q40 := eq_true q40; have p129 : 0 ≤ ((ji33) : Int) := of_decide_eq_true (by first | (with_reducible assumption) | assumption); have q129 : (ji33) < (l0.length : Int) := of_decide_eq_true (by first | (with_reducible assumption) | assumption); obtain ⟨ad129, e129, hx129_0⟩ := Kd.at_string HR0.out (ji33) p129 q129; obtain rfl : ad127 = ad129 := (by injection e129); replace hx129_0 := (HB.out.cell (World.block_lt_of_cell? w _ hx129_0)).trans hx129_0; replace p129 := eq_true p129; replace q129 := eq_true q129; have p45 : 0 ≤ (0 : Int) := (by omega); have q45 : 0 < (rdOf ByteArray.empty l0 (ji33)).size := (by have : (0 : Int) < ((rdOf ByteArray.empty l0 (ji33)).size : Int) := of_decide_eq_true (by first | (with_reducible assumption) | assumption); omega); have hx45 : ∀ h : 0 < (rdOf ByteArray.empty l0 (ji33)).size, (((rdOf ByteArray.empty l0 (ji33))[0]'h).toNat : Int) = bt (rdOf ByteArray.empty l0 (ji33)) 0 := bt_at (rdOf ByteArray.empty l0 (ji33)) 0; clear p45; have qi45 : (0 < ((rdOf ByteArray.empty l0 (ji33)).size : Int)) = True := eq_true (of_decide_eq_true (by first | (with_reducible assumption) | assumption)); replace q45 := eq_true q45)))
                                                  go_roundg kj8
                                                  case measure => have := HK1.out; have := HJ4.out; have := HK3.out; have := HJ8.out; omega
                                                  case rel => exact ⟨(y122), ((x7_1 ++ x9_3) ++ (⟨#[13, 10]⟩ : ByteArray)), (ji33), (by first | rfl | (simp; done) | (simp [*]; done)), (by first | rfl | (simp; done) | (simp only [← hji33] <;> (first | rfl | simp)) | (simp [*]; done)), H', ⟨by have := HK1.out; have := HJ4.out; have := HK3.out; have := HJ8.out; omega⟩, ⟨by (with_reducible repeat (first | apply Kd.R_alloc | apply Kd.R_drewN | apply Kd.R_drew)); exact HO124.out⟩, ⟨by repeat (first | (with_reducible first | exact HB.out | apply below_alloc | apply pw_below_drewN | apply below_drew1) | exact HB.out)⟩⟩
                                                · rw [if_neg c48] at H
                                                  exact absurd H (by simp)
                                              · rw [if_neg c47] at H
                                                exact absurd H (by simp)
                                            · rw [if_neg c46] at H
                                              have c46b0 : ((bt (rdOf ByteArray.empty l0 (ji33)) 0) == 13) = false := beq_eq_false_iff_ne.mpr c46
                                              have c46b1 : ((bt (rdOf ByteArray.empty l0 (ji33)) 0) != 13) = true := bne_iff_ne.mpr c46
                                              by_cases c50 : x7_1.size + x9_3.size ≤ 9223372036854775807
                                              · rw [if_pos c50] at H
                                                have c50b0 := eq_true c50
                                                have c50b1 : decide (x7_1.size + x9_3.size ≤ 9223372036854775807) = true := decide_eq_true c50
                                                try have c50b2 : (9223372036854775807 < x7_1.size + x9_3.size) = False := eq_false (Nat.not_lt.2 c50)
                                                by_cases c51 : (x7_1 ++ x9_3).size + 1 ≤ 9223372036854775807
                                                · rw [if_pos c51] at H
                                                  have c51b0 := eq_true c51
                                                  have c51b1 : decide ((x7_1 ++ x9_3).size + 1 ≤ 9223372036854775807) = true := decide_eq_true c51
                                                  have c51s : x7_1.size + x9_3.size + 1 ≤ 9223372036854775807 := by rw [← ByteArray.size_append]; exact c51
                                                  have c51s0 := eq_true c51s
                                                  have c51s1 : decide (x7_1.size + x9_3.size + 1 ≤ 9223372036854775807) = true := decide_eq_true c51s
                                                  have c51s2 : (9223372036854775807 < x7_1.size + x9_3.size + 1) = False := eq_false (Nat.not_lt.2 c51s)
                                                  try have c51b2 : (9223372036854775807 < (x7_1 ++ x9_3).size + 1) = False := eq_false (Nat.not_lt.2 c51)
                                                  have H' := Aside0.mk H
                                                  clear H
                                                  go_wp2_with (first | ((with_reducible refine gate_builtin (b := .append) (xs := #[.tmp 70, .tmp 72]) rfl ?_); (try (refine gate_guard (by rfl) ?_; dsimp only)); at_builtin; refine Kd.R_append Kd.string (w0 := w) w.heap.size rfl (.tmp 70) (.tmp 72) 23 9 (.string ⟨#[]⟩) 16 rfl Tryd.underlying23 info9 rfl (by decide) (by omega) u6 x6_1 x9_3 [.string x9_3] (fun _ => True) (fun _ => False) rfl rfl ?aP (fun _ hk => hk.elim) ?aF ?aO ?aB ?aS ?aL ?_; (case aP => exact rfl); (case aB => exact (by repeat (first | (with_reducible first | exact HB.out | apply below_alloc | apply pw_below_drewN | apply below_drew1) | exact HB.out))); (case aF => exact (fun _ _ => trivial)); (case aO => exact (by (with_reducible repeat (first | apply Kd.R_alloc | apply Kd.R_drewN | apply Kd.R_drew)); exact HO_6.out)); (case aS => exact (below_size (by repeat (first | (with_reducible first | exact HB.out | apply below_alloc | apply pw_below_drewN | apply below_drew1) | exact HB.out)))); (case aL => have := LMc26.out; omega); intro v123 w52 ho hb hg hat; rw [← Ny122.out] at ho; have n0_ := Aside0.mk (hb); have n1_ := Aside0.mk (ho); clear HB; clear HO_6; have HB := n0_; have HO124 := n1_; clear n0_ n1_; clear ho hb hg hat; have p125 : 0 ≤ (x8_1 : Int) := of_decide_eq_true (by first | (with_reducible assumption) | assumption); have q125 : x8_1 < (l1.length : Int) := of_decide_eq_true (by first | (with_reducible assumption) | assumption); obtain ⟨ad125, e125, hx125_0⟩ := Kd.at_int HR1.out x8_1 p125 q125; cases e125; replace hx125_0 := (HB.out.cell (World.block_lt_of_cell? w _ hx125_0)).trans hx125_0; replace p125 := eq_true p125; replace q125 := eq_true q125; have p126 : 0 ≤ (x8_1 : Int) := of_decide_eq_true (by first | (with_reducible assumption) | assumption); have q126 : x8_1 < (l1.length : Int) := of_decide_eq_true (by first | (with_reducible assumption) | assumption); obtain ⟨ad126, e126, hx126_0⟩ := Kd.at_int HR1.out x8_1 p126 q126; obtain rfl : ad125 = ad126 := (by injection e126); replace hx126_0 := (HB.out.cell (World.block_lt_of_cell? w _ hx126_0)).trans hx126_0; replace p126 := eq_true p126; replace q126 := eq_true q126; have p127 : 0 ≤ ((ji33) : Int) := of_decide_eq_true (by first | (with_reducible assumption) | assumption); have q127 : (ji33) < (l0.length : Int) := of_decide_eq_true (by first | (with_reducible assumption) | assumption); obtain ⟨ad127, e127, hx127_0⟩ := Kd.at_string HR0.out (ji33) p127 q127; cases e127; replace hx127_0 := (HB.out.cell (World.block_lt_of_cell? w _ hx127_0)).trans hx127_0; replace p127 := eq_true p127; replace q127 := eq_true q127; have p128 : 0 ≤ ((ji33) : Int) := of_decide_eq_true (by first | (with_reducible assumption) | assumption); have q128 : (ji33) < (l0.length : Int) := of_decide_eq_true (by first | (with_reducible assumption) | assumption); obtain ⟨ad128, e128, hx128_0⟩ := Kd.at_string HR0.out (ji33) p128 q128; obtain rfl : ad127 = ad128 := (by injection e128); replace hx128_0 := (HB.out.cell (World.block_lt_of_cell? w _ hx128_0)).trans hx128_0; replace p128 := eq_true p128; replace q128 := eq_true q128; have p40 : 0 ≤ (0 : Int) := (by omega); have q40 : 0 < (rdOf ByteArray.empty l0 (ji33)).size := (by have : (0 : Int) < ((rdOf ByteArray.empty l0 (ji33)).size : Int) := of_decide_eq_true (by first | (with_reducible assumption) | assumption); omega); have hx40 : ∀ h : 0 < (rdOf ByteArray.empty l0 (ji33)).size, (((rdOf ByteArray.empty l0 (ji33))[0]'h).toNat : Int) = bt (rdOf ByteArray.empty l0 (ji33)) 0 := bt_at (rdOf ByteArray.empty l0 (ji33)) 0; clear p40; have qi40 : (0 < ((rdOf ByteArray.empty l0 (ji33)).size : Int)) = True := eq_true (of_decide_eq_true (by first | (with_reducible assumption) | assumption)); replace q40 := eq_true q40; have p129 : 0 ≤ ((ji33) : Int) := of_decide_eq_true (by first | (with_reducible assumption) | assumption); have q129 : (ji33) < (l0.length : Int) := of_decide_eq_true (by first | (with_reducible assumption) | assumption); obtain ⟨ad129, e129, hx129_0⟩ := Kd.at_string HR0.out (ji33) p129 q129; obtain rfl : ad127 = ad129 := (by injection e129); replace hx129_0 := (HB.out.cell (World.block_lt_of_cell? w _ hx129_0)).trans hx129_0; replace p129 := eq_true p129; replace q129 := eq_true q129; have p45 : 0 ≤ (0 : Int) := (by omega); have q45 : 0 < (rdOf ByteArray.empty l0 (ji33)).size := (by have : (0 : Int) < ((rdOf ByteArray.empty l0 (ji33)).size : Int) := of_decide_eq_true (by first | (with_reducible assumption) | assumption); omega); have hx45 : ∀ h : 0 < (rdOf ByteArray.empty l0 (ji33)).size, (((rdOf ByteArray.empty l0 (ji33))[0]'h).toNat : Int) = bt (rdOf ByteArray.empty l0 (ji33)) 0 := bt_at (rdOf ByteArray.empty l0 (ji33)) 0; clear p45; have qi45 : (0 < ((rdOf ByteArray.empty l0 (ji33)).size : Int)) = True := eq_true (of_decide_eq_true (by first | (with_reducible assumption) | assumption)); replace q45 := eq_true q45))
                                                  repeat (go_quiet (first | ((with_reducible refine gate_builtin (b := .append) (xs := #[.tmp 70, .tmp 72]) rfl ?_); (try (refine gate_guard (by rfl) ?_; dsimp only)); at_builtin; refine Kd.R_append Kd.string (w0 := w) w.heap.size rfl (.tmp 70) (.tmp 72) 23 9 (.string ⟨#[]⟩) 16 rfl Tryd.underlying23 info9 rfl (by decide) (by omega) u6 x6_1 x9_3 [.string x9_3] (fun _ => True) (fun _ => False) rfl rfl ?aP (fun _ hk => hk.elim) ?aF ?aO ?aB ?aS ?aL ?_; (case aP => exact rfl); (case aB => exact (by repeat (first | (with_reducible first | exact HB.out | apply below_alloc | apply pw_below_drewN | apply below_drew1) | exact HB.out))); (case aF => exact (fun _ _ => trivial)); (case aO => exact (by (with_reducible repeat (first | apply Kd.R_alloc | apply Kd.R_drewN | apply Kd.R_drew)); exact HO_6.out)); (case aS => exact (below_size (by repeat (first | (with_reducible first | exact HB.out | apply below_alloc | apply pw_below_drewN | apply below_drew1) | exact HB.out)))); (case aL => have := LMc26.out; omega); intro v123 w52 ho hb hg hat; rw [← Ny122.out] at ho; have n0_ := Aside0.mk (hb); have n1_ := Aside0.mk (ho); clear HB; clear HO_6; have HB := n0_; have HO124 := n1_; clear n0_ n1_; clear ho hb hg hat; have p125 : 0 ≤ (x8_1 : Int) := of_decide_eq_true (by first | (with_reducible assumption) | assumption); have q125 : x8_1 < (l1.length : Int) := of_decide_eq_true (by first | (with_reducible assumption) | assumption); obtain ⟨ad125, e125, hx125_0⟩ := Kd.at_int HR1.out x8_1 p125 q125; cases e125; replace hx125_0 := (HB.out.cell (World.block_lt_of_cell? w _ hx125_0)).trans hx125_0; replace p125 := eq_true p125; replace q125 := eq_true q125; have p126 : 0 ≤ (x8_1 : Int) := of_decide_eq_true (by first | (with_reducible assumption) | assumption); have q126 : x8_1 < (l1.length : Int) := of_decide_eq_true (by first | (with_reducible assumption) | assumption); obtain ⟨ad126, e126, hx126_0⟩ := Kd.at_int HR1.out x8_1 p126 q126; obtain rfl : ad125 = ad126 := (by injection e126); replace hx126_0 := (HB.out.cell (World.block_lt_of_cell? w _ hx126_0)).trans hx126_0; replace p126 := eq_true p126; replace q126 := eq_true q126; have p127 : 0 ≤ ((ji33) : Int) := of_decide_eq_true (by first | (with_reducible assumption) | assumption); have q127 : (ji33) < (l0.length : Int) := of_decide_eq_true (by first | (with_reducible assumption) | assumption); obtain ⟨ad127, e127, hx127_0⟩ := Kd.at_string HR0.out (ji33) p127 q127; cases e127; replace hx127_0 := (HB.out.cell (World.block_lt_of_cell? w _ hx127_0)).trans hx127_0; replace p127 := eq_true p127; replace q127 := eq_true q127; have p128 : 0 ≤ ((ji33) : Int) := of_decide_eq_true (by first | (with_reducible assumption) | assumption); have q128 : (ji33) < (l0.length : Int) := of_decide_eq_true (by first | (with_reducible assumption) | assumption); obtain ⟨ad128, e128, hx128_0⟩ := Kd.at_string HR0.out (ji33) p128 q128; obtain rfl : ad127 = ad128 := (by injection e128); replace hx128_0 := (HB.out.cell (World.block_lt_of_cell? w _ hx128_0)).trans hx128_0; replace p128 := eq_true p128; replace q128 := eq_true q128; have p40 : 0 ≤ (0 : Int) := (by omega); have q40 : 0 < (rdOf ByteArray.empty l0 (ji33)).size := (by have : (0 : Int) < ((rdOf ByteArray.empty l0 (ji33)).size : Int) := of_decide_eq_true (by first | (with_reducible assumption) | assumption); omega); have hx40 : ∀ h : 0 < (rdOf ByteArray.empty l0 (ji33)).size, (((rdOf ByteArray.empty l0 (ji33))[0]'h).toNat : Int) = bt (rdOf ByteArray.empty l0 (ji33)) 0 := bt_at (rdOf ByteArray.empty l0 (ji33)) 0; clear p40; have qi40 : (0 < ((rdOf ByteArray.empty l0 (ji33)).size : Int)) = True := eq_true (of_decide_eq_true (by first | (with_reducible assumption) | assumption)); replace q40 := eq_true q40; have p129 : 0 ≤ ((ji33) : Int) := of_decide_eq_true (by first | (with_reducible assumption) | assumption); have q129 : (ji33) < (l0.length : Int) := of_decide_eq_true (by first | (with_reducible assumption) | assumption); obtain ⟨ad129, e129, hx129_0⟩ := Kd.at_string HR0.out (ji33) p129 q129; obtain rfl : ad127 = ad129 := (by injection e129); replace hx129_0 := (HB.out.cell (World.block_lt_of_cell? w _ hx129_0)).trans hx129_0; replace p129 := eq_true p129; replace q129 := eq_true q129; have p45 : 0 ≤ (0 : Int) := (by omega); have q45 : 0 < (rdOf ByteArray.empty l0 (ji33)).size := (by have : (0 : Int) < ((rdOf ByteArray.empty l0 (ji33)).size : Int) := of_decide_eq_true (by first | (with_reducible assumption) | assumption); omega); have hx45 : ∀ h : 0 < (rdOf ByteArray.empty l0 (ji33)).size, (((rdOf ByteArray.empty l0 (ji33))[0]'h).toNat : Int) = bt (rdOf ByteArray.empty l0 (ji33)) 0 := bt_at (rdOf ByteArray.empty l0 (ji33)) 0; clear p45; have qi45 : (0 < ((rdOf ByteArray.empty l0 (ji33)).size : Int)) = True := eq_true (of_decide_eq_true (by first | (with_reducible assumption) | assumption)); replace q45 := eq_true q45)); try go_wp2_with (first | ((with_reducible refine gate_builtin (b := .append) (xs := #[.tmp 70, .tmp 72]) rfl ?_); (try (refine gate_guard (by rfl) ?_; dsimp only)); at_builtin; refine Kd.R_append Kd.string (w0 := w) w.heap.size rfl (.tmp 70) (.tmp 72) 23 9 (.string ⟨#[]⟩) 16 rfl Tryd.underlying23 info9 rfl (by decide) (by omega) u6 x6_1 x9_3 [.string x9_3] (fun _ => True) (fun _ => False) rfl rfl ?aP (fun _ hk => hk.elim) ?aF ?aO ?aB ?aS ?aL ?_; (case aP => exact rfl); (case aB => exact (by repeat (first | (with_reducible first | exact HB.out | apply below_alloc | apply pw_below_drewN | apply below_drew1) | exact HB.out))); (case aF => exact (fun _ _ => trivial)); (case aO => exact (by (with_reducible repeat (first | apply Kd.R_alloc | apply Kd.R_drewN | apply Kd.R_drew)); exact HO_6.out)); (case aS => exact (below_size (by repeat (first | (with_reducible first | exact HB.out | apply below_alloc | apply pw_below_drewN | apply below_drew1) | exact HB.out)))); (case aL => have := LMc26.out; omega); intro v123 w52 ho hb hg hat; rw [← Ny122.out] at ho; have n0_ := Aside0.mk (hb); have n1_ := Aside0.mk (ho); clear HB; clear HO_6; have HB := n0_; have HO124 := n1_; clear n0_ n1_; clear ho hb hg hat; have p125 : 0 ≤ (x8_1 : Int) := of_decide_eq_true (by first | (with_reducible assumption) | assumption); have q125 : x8_1 < (l1.length : Int) := of_decide_eq_true (by first | (with_reducible assumption) | assumption); obtain ⟨ad125, e125, hx125_0⟩ := Kd.at_int HR1.out x8_1 p125 q125; cases e125; replace hx125_0 := (HB.out.cell (World.block_lt_of_cell? w _ hx125_0)).trans hx125_0; replace p125 := eq_true p125; replace q125 := eq_true q125; have p126 : 0 ≤ (x8_1 : Int) := of_decide_eq_true (by first | (with_reducible assumption) | assumption); have q126 : x8_1 < (l1.length : Int) := of_decide_eq_true (by first | (with_reducible assumption) | assumption); obtain ⟨ad126, e126, hx126_0⟩ := Kd.at_int HR1.out x8_1 p126 q126; obtain rfl : ad125 = ad126 := (by injection e126); replace hx126_0 := (HB.out.cell (World.block_lt_of_cell? w _ hx126_0)).trans hx126_0; replace p126 := eq_true p126; replace q126 := eq_true q126; have p127 : 0 ≤ ((ji33) : Int) := of_decide_eq_true (by first | (with_reducible assumption) | assumption); have q127 : (ji33) < (l0.length : Int) := of_decide_eq_true (by first | (with_reducible assumption) | assumption); obtain ⟨ad127, e127, hx127_0⟩ := Kd.at_string HR0.out (ji33) p127 q127; cases e127; replace hx127_0 := (HB.out.cell (World.block_lt_of_cell? w _ hx127_0)).trans hx127_0; replace p127 := eq_true p127; replace q127 := eq_true q127; have p128 : 0 ≤ ((ji33) : Int) := of_decide_eq_true (by first | (with_reducible assumption) | assumption); have q128 : (ji33) < (l0.length : Int) := of_decide_eq_true (by first | (with_reducible assumption) | assumption); obtain ⟨ad128, e128, hx128_0⟩ := Kd.at_string HR0.out (ji33) p128 q128; obtain rfl : ad127 = ad128 := (by injection e128); replace hx128_0 := (HB.out.cell (World.block_lt_of_cell? w _ hx128_0)).trans hx128_0; replace p128 := eq_true p128; replace q128 := eq_true q128; have p40 : 0 ≤ (0 : Int) := (by omega); have q40 : 0 < (rdOf ByteArray.empty l0 (ji33)).size := (by have : (0 : Int) < ((rdOf ByteArray.empty l0 (ji33)).size : Int) := of_decide_eq_true (by first | (with_reducible assumption) | assumption); omega); have hx40 : ∀ h : 0 < (rdOf ByteArray.empty l0 (ji33)).size, (((rdOf ByteArray.empty l0 (ji33))[0]'h).toNat : Int) = bt (rdOf ByteArray.empty l0 (ji33)) 0 := bt_at (rdOf ByteArray.empty l0 (ji33)) 0; clear p40; have qi40 : (0 < ((rdOf ByteArray.empty l0 (ji33)).size : Int)) = True := eq_true (of_decide_eq_true (by first | (with_reducible assumption) | assumption)); replace q40 := eq_true q40; have p129 : 0 ≤ ((ji33) : Int) := of_decide_eq_true (by first | (with_reducible assumption) | assumption); have q129 : (ji33) < (l0.length : Int) := of_decide_eq_true (by first | (with_reducible assumption) | assumption); obtain ⟨ad129, e129, hx129_0⟩ := Kd.at_string HR0.out (ji33) p129 q129; obtain rfl : ad127 = ad129 := (by injection e129); replace hx129_0 := (HB.out.cell (World.block_lt_of_cell? w _ hx129_0)).trans hx129_0; replace p129 := eq_true p129; replace q129 := eq_true q129; have p45 : 0 ≤ (0 : Int) := (by omega); have q45 : 0 < (rdOf ByteArray.empty l0 (ji33)).size := (by have : (0 : Int) < ((rdOf ByteArray.empty l0 (ji33)).size : Int) := of_decide_eq_true (by first | (with_reducible assumption) | assumption); omega); have hx45 : ∀ h : 0 < (rdOf ByteArray.empty l0 (ji33)).size, (((rdOf ByteArray.empty l0 (ji33))[0]'h).toNat : Int) = bt (rdOf ByteArray.empty l0 (ji33)) 0 := bt_at (rdOf ByteArray.empty l0 (ji33)) 0; clear p45; have qi45 : (0 < ((rdOf ByteArray.empty l0 (ji33)).size : Int)) = True := eq_true (of_decide_eq_true (by first | (with_reducible assumption) | assumption)); replace q45 := eq_true q45)))
                                                  go_roundg kj8
                                                  case measure => have := HK1.out; have := HJ4.out; have := HK3.out; have := HJ8.out; omega
                                                  case rel => exact ⟨(y122), ((x7_1 ++ x9_3) ++ (⟨#[13]⟩ : ByteArray)), (ji33), (by first | rfl | (simp; done) | (simp [*]; done)), (by first | rfl | (simp; done) | (simp only [← hji33] <;> (first | rfl | simp)) | (simp [*]; done)), H', ⟨by have := HK1.out; have := HJ4.out; have := HK3.out; have := HJ8.out; omega⟩, ⟨by (with_reducible repeat (first | apply Kd.R_alloc | apply Kd.R_drewN | apply Kd.R_drew)); exact HO124.out⟩, ⟨by repeat (first | (with_reducible first | exact HB.out | apply below_alloc | apply pw_below_drewN | apply below_drew1) | exact HB.out)⟩⟩
                                                · rw [if_neg c51] at H
                                                  exact absurd H (by simp)
                                              · rw [if_neg c50] at H
                                                exact absurd H (by simp)
                                        · rw [if_neg c39] at H
                                          exact absurd H (by simp)
                                    · rw [if_neg c34] at H
                                      exact absurd H (by simp)
                                  · rw [if_neg c32] at H
                                    have c32b0 : decide ((wrap64 (x8_1 + 1)) < (l1.length : Int)) = false := decide_eq_false c32
                                    clear c32
                                    by_cases c53 : x7_1.size + x9_3.size ≤ 9223372036854775807
                                    · rw [if_pos c53] at H
                                      have c53b0 := eq_true c53
                                      have c53b1 : decide (x7_1.size + x9_3.size ≤ 9223372036854775807) = true := decide_eq_true c53
                                      try have c53b2 : (9223372036854775807 < x7_1.size + x9_3.size) = False := eq_false (Nat.not_lt.2 c53)
                                      by_cases c54 : (x7_1 ++ x9_3).size + 2 ≤ 9223372036854775807
                                      · rw [if_pos c54] at H
                                        have c54b0 := eq_true c54
                                        have c54b1 : decide ((x7_1 ++ x9_3).size + 2 ≤ 9223372036854775807) = true := decide_eq_true c54
                                        have c54s : x7_1.size + x9_3.size + 2 ≤ 9223372036854775807 := by rw [← ByteArray.size_append]; exact c54
                                        have c54s0 := eq_true c54s
                                        have c54s1 : decide (x7_1.size + x9_3.size + 2 ≤ 9223372036854775807) = true := decide_eq_true c54s
                                        have c54s2 : (9223372036854775807 < x7_1.size + x9_3.size + 2) = False := eq_false (Nat.not_lt.2 c54s)
                                        try have c54b2 : (9223372036854775807 < (x7_1 ++ x9_3).size + 2) = False := eq_false (Nat.not_lt.2 c54)
                                        have H' := Aside0.mk H
                                        clear H
                                        go_wp2_with (first | ((with_reducible refine gate_builtin (b := .append) (xs := #[.tmp 70, .tmp 72]) rfl ?_); (try (refine gate_guard (by rfl) ?_; dsimp only)); at_builtin; refine Kd.R_append Kd.string (w0 := w) w.heap.size rfl (.tmp 70) (.tmp 72) 23 9 (.string ⟨#[]⟩) 16 rfl Tryd.underlying23 info9 rfl (by decide) (by omega) u6 x6_1 x9_3 [.string x9_3] (fun _ => True) (fun _ => False) rfl rfl ?aP (fun _ hk => hk.elim) ?aF ?aO ?aB ?aS ?aL ?_; (case aP => exact rfl); (case aB => exact (by repeat (first | (with_reducible first | exact HB.out | apply below_alloc | apply pw_below_drewN | apply below_drew1) | exact HB.out))); (case aF => exact (fun _ _ => trivial)); (case aO => exact (by (with_reducible repeat (first | apply Kd.R_alloc | apply Kd.R_drewN | apply Kd.R_drew)); exact HO_6.out)); (case aS => exact (below_size (by repeat (first | (with_reducible first | exact HB.out | apply below_alloc | apply pw_below_drewN | apply below_drew1) | exact HB.out)))); (case aL => have := LMc26.out; omega); intro v123 w55 ho hb hg hat; rw [← Ny122.out] at ho; have n0_ := Aside0.mk (hb); have n1_ := Aside0.mk (ho); clear HB; clear HO_6; have HB := n0_; have HO124 := n1_; clear n0_ n1_; clear ho hb hg hat; have p125 : 0 ≤ (x8_1 : Int) := of_decide_eq_true (by first | (with_reducible assumption) | assumption); have q125 : x8_1 < (l1.length : Int) := of_decide_eq_true (by first | (with_reducible assumption) | assumption); obtain ⟨ad125, e125, hx125_0⟩ := Kd.at_int HR1.out x8_1 p125 q125; cases e125; replace hx125_0 := (HB.out.cell (World.block_lt_of_cell? w _ hx125_0)).trans hx125_0; replace p125 := eq_true p125; replace q125 := eq_true q125; have p126 : 0 ≤ (x8_1 : Int) := of_decide_eq_true (by first | (with_reducible assumption) | assumption); have q126 : x8_1 < (l1.length : Int) := of_decide_eq_true (by first | (with_reducible assumption) | assumption); obtain ⟨ad126, e126, hx126_0⟩ := Kd.at_int HR1.out x8_1 p126 q126; obtain rfl : ad125 = ad126 := (by injection e126); replace hx126_0 := (HB.out.cell (World.block_lt_of_cell? w _ hx126_0)).trans hx126_0; replace p126 := eq_true p126; replace q126 := eq_true q126))
                                        repeat (go_quiet (first | ((with_reducible refine gate_builtin (b := .append) (xs := #[.tmp 70, .tmp 72]) rfl ?_); (try (refine gate_guard (by rfl) ?_; dsimp only)); at_builtin; refine Kd.R_append Kd.string (w0 := w) w.heap.size rfl (.tmp 70) (.tmp 72) 23 9 (.string ⟨#[]⟩) 16 rfl Tryd.underlying23 info9 rfl (by decide) (by omega) u6 x6_1 x9_3 [.string x9_3] (fun _ => True) (fun _ => False) rfl rfl ?aP (fun _ hk => hk.elim) ?aF ?aO ?aB ?aS ?aL ?_; (case aP => exact rfl); (case aB => exact (by repeat (first | (with_reducible first | exact HB.out | apply below_alloc | apply pw_below_drewN | apply below_drew1) | exact HB.out))); (case aF => exact (fun _ _ => trivial)); (case aO => exact (by (with_reducible repeat (first | apply Kd.R_alloc | apply Kd.R_drewN | apply Kd.R_drew)); exact HO_6.out)); (case aS => exact (below_size (by repeat (first | (with_reducible first | exact HB.out | apply below_alloc | apply pw_below_drewN | apply below_drew1) | exact HB.out)))); (case aL => have := LMc26.out; omega); intro v123 w55 ho hb hg hat; rw [← Ny122.out] at ho; have n0_ := Aside0.mk (hb); have n1_ := Aside0.mk (ho); clear HB; clear HO_6; have HB := n0_; have HO124 := n1_; clear n0_ n1_; clear ho hb hg hat; have p125 : 0 ≤ (x8_1 : Int) := of_decide_eq_true (by first | (with_reducible assumption) | assumption); have q125 : x8_1 < (l1.length : Int) := of_decide_eq_true (by first | (with_reducible assumption) | assumption); obtain ⟨ad125, e125, hx125_0⟩ := Kd.at_int HR1.out x8_1 p125 q125; cases e125; replace hx125_0 := (HB.out.cell (World.block_lt_of_cell? w _ hx125_0)).trans hx125_0; replace p125 := eq_true p125; replace q125 := eq_true q125; have p126 : 0 ≤ (x8_1 : Int) := of_decide_eq_true (by first | (with_reducible assumption) | assumption); have q126 : x8_1 < (l1.length : Int) := of_decide_eq_true (by first | (with_reducible assumption) | assumption); obtain ⟨ad126, e126, hx126_0⟩ := Kd.at_int HR1.out x8_1 p126 q126; obtain rfl : ad125 = ad126 := (by injection e126); replace hx126_0 := (HB.out.cell (World.block_lt_of_cell? w _ hx126_0)).trans hx126_0; replace p126 := eq_true p126; replace q126 := eq_true q126)); try go_wp2_with (first | ((with_reducible refine gate_builtin (b := .append) (xs := #[.tmp 70, .tmp 72]) rfl ?_); (try (refine gate_guard (by rfl) ?_; dsimp only)); at_builtin; refine Kd.R_append Kd.string (w0 := w) w.heap.size rfl (.tmp 70) (.tmp 72) 23 9 (.string ⟨#[]⟩) 16 rfl Tryd.underlying23 info9 rfl (by decide) (by omega) u6 x6_1 x9_3 [.string x9_3] (fun _ => True) (fun _ => False) rfl rfl ?aP (fun _ hk => hk.elim) ?aF ?aO ?aB ?aS ?aL ?_; (case aP => exact rfl); (case aB => exact (by repeat (first | (with_reducible first | exact HB.out | apply below_alloc | apply pw_below_drewN | apply below_drew1) | exact HB.out))); (case aF => exact (fun _ _ => trivial)); (case aO => exact (by (with_reducible repeat (first | apply Kd.R_alloc | apply Kd.R_drewN | apply Kd.R_drew)); exact HO_6.out)); (case aS => exact (below_size (by repeat (first | (with_reducible first | exact HB.out | apply below_alloc | apply pw_below_drewN | apply below_drew1) | exact HB.out)))); (case aL => have := LMc26.out; omega); intro v123 w55 ho hb hg hat; rw [← Ny122.out] at ho; have n0_ := Aside0.mk (hb); have n1_ := Aside0.mk (ho); clear HB; clear HO_6; have HB := n0_; have HO124 := n1_; clear n0_ n1_; clear ho hb hg hat; have p125 : 0 ≤ (x8_1 : Int) := of_decide_eq_true (by first | (with_reducible assumption) | assumption); have q125 : x8_1 < (l1.length : Int) := of_decide_eq_true (by first | (with_reducible assumption) | assumption); obtain ⟨ad125, e125, hx125_0⟩ := Kd.at_int HR1.out x8_1 p125 q125; cases e125; replace hx125_0 := (HB.out.cell (World.block_lt_of_cell? w _ hx125_0)).trans hx125_0; replace p125 := eq_true p125; replace q125 := eq_true q125; have p126 : 0 ≤ (x8_1 : Int) := of_decide_eq_true (by first | (with_reducible assumption) | assumption); have q126 : x8_1 < (l1.length : Int) := of_decide_eq_true (by first | (with_reducible assumption) | assumption); obtain ⟨ad126, e126, hx126_0⟩ := Kd.at_int HR1.out x8_1 p126 q126; obtain rfl : ad125 = ad126 := (by injection e126); replace hx126_0 := (HB.out.cell (World.block_lt_of_cell? w _ hx126_0)).trans hx126_0; replace p126 := eq_true p126; replace q126 := eq_true q126)))
                                        go_roundg kj8
                                        case measure => have := HK1.out; have := HJ4.out; have := HK3.out; have := HJ8.out; omega
                                        case rel => exact ⟨(y122), ((x7_1 ++ x9_3) ++ (⟨#[13, 10]⟩ : ByteArray)), (wrap64 (x8_1 + 1)), (by first | rfl | (simp; done) | (simp [*]; done)), (by first | rfl | (simp; done) | (simp [*]; done)), H', ⟨by have := HK1.out; have := HJ4.out; have := HK3.out; have := HJ8.out; omega⟩, ⟨by (with_reducible repeat (first | apply Kd.R_alloc | apply Kd.R_drewN | apply Kd.R_drew)); exact HO124.out⟩, ⟨by repeat (first | (with_reducible first | exact HB.out | apply below_alloc | apply pw_below_drewN | apply below_drew1) | exact HB.out)⟩⟩
                                      · rw [if_neg c54] at H
                                        exact absurd H (by simp)
                                    · rw [if_neg c53] at H
                                      exact absurd H (by simp)
                                · rw [if_neg c31] at H
                                  have c31b0 : decide ((wrap64 (x8_1 + 1)) < (l0.length : Int)) = false := decide_eq_false c31
                                  clear c31
                                  by_cases c56 : x7_1.size + x9_3.size ≤ 9223372036854775807
                                  · rw [if_pos c56] at H
                                    have c56b0 := eq_true c56
                                    have c56b1 : decide (x7_1.size + x9_3.size ≤ 9223372036854775807) = true := decide_eq_true c56
                                    try have c56b2 : (9223372036854775807 < x7_1.size + x9_3.size) = False := eq_false (Nat.not_lt.2 c56)
                                    by_cases c57 : (x7_1 ++ x9_3).size + 2 ≤ 9223372036854775807
                                    · rw [if_pos c57] at H
                                      have c57b0 := eq_true c57
                                      have c57b1 : decide ((x7_1 ++ x9_3).size + 2 ≤ 9223372036854775807) = true := decide_eq_true c57
                                      have c57s : x7_1.size + x9_3.size + 2 ≤ 9223372036854775807 := by rw [← ByteArray.size_append]; exact c57
                                      have c57s0 := eq_true c57s
                                      have c57s1 : decide (x7_1.size + x9_3.size + 2 ≤ 9223372036854775807) = true := decide_eq_true c57s
                                      have c57s2 : (9223372036854775807 < x7_1.size + x9_3.size + 2) = False := eq_false (Nat.not_lt.2 c57s)
                                      try have c57b2 : (9223372036854775807 < (x7_1 ++ x9_3).size + 2) = False := eq_false (Nat.not_lt.2 c57)
                                      have H' := Aside0.mk H
                                      clear H
                                      go_wp2_with (first | ((with_reducible refine gate_builtin (b := .append) (xs := #[.tmp 70, .tmp 72]) rfl ?_); (try (refine gate_guard (by rfl) ?_; dsimp only)); at_builtin; refine Kd.R_append Kd.string (w0 := w) w.heap.size rfl (.tmp 70) (.tmp 72) 23 9 (.string ⟨#[]⟩) 16 rfl Tryd.underlying23 info9 rfl (by decide) (by omega) u6 x6_1 x9_3 [.string x9_3] (fun _ => True) (fun _ => False) rfl rfl ?aP (fun _ hk => hk.elim) ?aF ?aO ?aB ?aS ?aL ?_; (case aP => exact rfl); (case aB => exact (by repeat (first | (with_reducible first | exact HB.out | apply below_alloc | apply pw_below_drewN | apply below_drew1) | exact HB.out))); (case aF => exact (fun _ _ => trivial)); (case aO => exact (by (with_reducible repeat (first | apply Kd.R_alloc | apply Kd.R_drewN | apply Kd.R_drew)); exact HO_6.out)); (case aS => exact (below_size (by repeat (first | (with_reducible first | exact HB.out | apply below_alloc | apply pw_below_drewN | apply below_drew1) | exact HB.out)))); (case aL => have := LMc26.out; omega); intro v123 w58 ho hb hg hat; rw [← Ny122.out] at ho; have n0_ := Aside0.mk (hb); have n1_ := Aside0.mk (ho); clear HB; clear HO_6; have HB := n0_; have HO124 := n1_; clear n0_ n1_; clear ho hb hg hat; have p125 : 0 ≤ (x8_1 : Int) := of_decide_eq_true (by first | (with_reducible assumption) | assumption); have q125 : x8_1 < (l1.length : Int) := of_decide_eq_true (by first | (with_reducible assumption) | assumption); obtain ⟨ad125, e125, hx125_0⟩ := Kd.at_int HR1.out x8_1 p125 q125; cases e125; replace hx125_0 := (HB.out.cell (World.block_lt_of_cell? w _ hx125_0)).trans hx125_0; replace p125 := eq_true p125; replace q125 := eq_true q125; have p126 : 0 ≤ (x8_1 : Int) := of_decide_eq_true (by first | (with_reducible assumption) | assumption); have q126 : x8_1 < (l1.length : Int) := of_decide_eq_true (by first | (with_reducible assumption) | assumption); obtain ⟨ad126, e126, hx126_0⟩ := Kd.at_int HR1.out x8_1 p126 q126; obtain rfl : ad125 = ad126 := (by injection e126); replace hx126_0 := (HB.out.cell (World.block_lt_of_cell? w _ hx126_0)).trans hx126_0; replace p126 := eq_true p126; replace q126 := eq_true q126))
                                      repeat (go_quiet (first | ((with_reducible refine gate_builtin (b := .append) (xs := #[.tmp 70, .tmp 72]) rfl ?_); (try (refine gate_guard (by rfl) ?_; dsimp only)); at_builtin; refine Kd.R_append Kd.string (w0 := w) w.heap.size rfl (.tmp 70) (.tmp 72) 23 9 (.string ⟨#[]⟩) 16 rfl Tryd.underlying23 info9 rfl (by decide) (by omega) u6 x6_1 x9_3 [.string x9_3] (fun _ => True) (fun _ => False) rfl rfl ?aP (fun _ hk => hk.elim) ?aF ?aO ?aB ?aS ?aL ?_; (case aP => exact rfl); (case aB => exact (by repeat (first | (with_reducible first | exact HB.out | apply below_alloc | apply pw_below_drewN | apply below_drew1) | exact HB.out))); (case aF => exact (fun _ _ => trivial)); (case aO => exact (by (with_reducible repeat (first | apply Kd.R_alloc | apply Kd.R_drewN | apply Kd.R_drew)); exact HO_6.out)); (case aS => exact (below_size (by repeat (first | (with_reducible first | exact HB.out | apply below_alloc | apply pw_below_drewN | apply below_drew1) | exact HB.out)))); (case aL => have := LMc26.out; omega); intro v123 w58 ho hb hg hat; rw [← Ny122.out] at ho; have n0_ := Aside0.mk (hb); have n1_ := Aside0.mk (ho); clear HB; clear HO_6; have HB := n0_; have HO124 := n1_; clear n0_ n1_; clear ho hb hg hat; have p125 : 0 ≤ (x8_1 : Int) := of_decide_eq_true (by first | (with_reducible assumption) | assumption); have q125 : x8_1 < (l1.length : Int) := of_decide_eq_true (by first | (with_reducible assumption) | assumption); obtain ⟨ad125, e125, hx125_0⟩ := Kd.at_int HR1.out x8_1 p125 q125; cases e125; replace hx125_0 := (HB.out.cell (World.block_lt_of_cell? w _ hx125_0)).trans hx125_0; replace p125 := eq_true p125; replace q125 := eq_true q125; have p126 : 0 ≤ (x8_1 : Int) := of_decide_eq_true (by first | (with_reducible assumption) | assumption); have q126 : x8_1 < (l1.length : Int) := of_decide_eq_true (by first | (with_reducible assumption) | assumption); obtain ⟨ad126, e126, hx126_0⟩ := Kd.at_int HR1.out x8_1 p126 q126; obtain rfl : ad125 = ad126 := (by injection e126); replace hx126_0 := (HB.out.cell (World.block_lt_of_cell? w _ hx126_0)).trans hx126_0; replace p126 := eq_true p126; replace q126 := eq_true q126)); try go_wp2_with (first | ((with_reducible refine gate_builtin (b := .append) (xs := #[.tmp 70, .tmp 72]) rfl ?_); (try (refine gate_guard (by rfl) ?_; dsimp only)); at_builtin; refine Kd.R_append Kd.string (w0 := w) w.heap.size rfl (.tmp 70) (.tmp 72) 23 9 (.string ⟨#[]⟩) 16 rfl Tryd.underlying23 info9 rfl (by decide) (by omega) u6 x6_1 x9_3 [.string x9_3] (fun _ => True) (fun _ => False) rfl rfl ?aP (fun _ hk => hk.elim) ?aF ?aO ?aB ?aS ?aL ?_; (case aP => exact rfl); (case aB => exact (by repeat (first | (with_reducible first | exact HB.out | apply below_alloc | apply pw_below_drewN | apply below_drew1) | exact HB.out))); (case aF => exact (fun _ _ => trivial)); (case aO => exact (by (with_reducible repeat (first | apply Kd.R_alloc | apply Kd.R_drewN | apply Kd.R_drew)); exact HO_6.out)); (case aS => exact (below_size (by repeat (first | (with_reducible first | exact HB.out | apply below_alloc | apply pw_below_drewN | apply below_drew1) | exact HB.out)))); (case aL => have := LMc26.out; omega); intro v123 w58 ho hb hg hat; rw [← Ny122.out] at ho; have n0_ := Aside0.mk (hb); have n1_ := Aside0.mk (ho); clear HB; clear HO_6; have HB := n0_; have HO124 := n1_; clear n0_ n1_; clear ho hb hg hat; have p125 : 0 ≤ (x8_1 : Int) := of_decide_eq_true (by first | (with_reducible assumption) | assumption); have q125 : x8_1 < (l1.length : Int) := of_decide_eq_true (by first | (with_reducible assumption) | assumption); obtain ⟨ad125, e125, hx125_0⟩ := Kd.at_int HR1.out x8_1 p125 q125; cases e125; replace hx125_0 := (HB.out.cell (World.block_lt_of_cell? w _ hx125_0)).trans hx125_0; replace p125 := eq_true p125; replace q125 := eq_true q125; have p126 : 0 ≤ (x8_1 : Int) := of_decide_eq_true (by first | (with_reducible assumption) | assumption); have q126 : x8_1 < (l1.length : Int) := of_decide_eq_true (by first | (with_reducible assumption) | assumption); obtain ⟨ad126, e126, hx126_0⟩ := Kd.at_int HR1.out x8_1 p126 q126; obtain rfl : ad125 = ad126 := (by injection e126); replace hx126_0 := (HB.out.cell (World.block_lt_of_cell? w _ hx126_0)).trans hx126_0; replace p126 := eq_true p126; replace q126 := eq_true q126)))
                                      go_roundg kj8
                                      case measure => have := HK1.out; have := HJ4.out; have := HK3.out; have := HJ8.out; omega
                                      case rel => exact ⟨(y122), ((x7_1 ++ x9_3) ++ (⟨#[13, 10]⟩ : ByteArray)), (wrap64 (x8_1 + 1)), (by first | rfl | (simp; done) | (simp [*]; done)), (by first | rfl | (simp; done) | (simp [*]; done)), H', ⟨by have := HK1.out; have := HJ4.out; have := HK3.out; have := HJ8.out; omega⟩, ⟨by (with_reducible repeat (first | apply Kd.R_alloc | apply Kd.R_drewN | apply Kd.R_drew)); exact HO124.out⟩, ⟨by repeat (first | (with_reducible first | exact HB.out | apply below_alloc | apply pw_below_drewN | apply below_drew1) | exact HB.out)⟩⟩
                                    · rw [if_neg c57] at H
                                      exact absurd H (by simp)
                                  · rw [if_neg c56] at H
                                    exact absurd H (by simp)
                              · rw [if_neg c30] at H
                                have c30b0 : ((Go.bits .and .i64 (rd l1 x8_1) 3) == 2) = false := beq_eq_false_iff_ne.mpr c30
                                have c30b1 : ((Go.bits .and .i64 (rd l1 x8_1) 3) != 2) = true := bne_iff_ne.mpr c30
                                by_cases c59 : x7_1.size + x9_3.size ≤ 9223372036854775807
                                · rw [if_pos c59] at H
                                  have c59b0 := eq_true c59
                                  have c59b1 : decide (x7_1.size + x9_3.size ≤ 9223372036854775807) = true := decide_eq_true c59
                                  try have c59b2 : (9223372036854775807 < x7_1.size + x9_3.size) = False := eq_false (Nat.not_lt.2 c59)
                                  by_cases c60 : (x7_1 ++ x9_3).size + 2 ≤ 9223372036854775807
                                  · rw [if_pos c60] at H
                                    have c60b0 := eq_true c60
                                    have c60b1 : decide ((x7_1 ++ x9_3).size + 2 ≤ 9223372036854775807) = true := decide_eq_true c60
                                    have c60s : x7_1.size + x9_3.size + 2 ≤ 9223372036854775807 := by rw [← ByteArray.size_append]; exact c60
                                    have c60s0 := eq_true c60s
                                    have c60s1 : decide (x7_1.size + x9_3.size + 2 ≤ 9223372036854775807) = true := decide_eq_true c60s
                                    have c60s2 : (9223372036854775807 < x7_1.size + x9_3.size + 2) = False := eq_false (Nat.not_lt.2 c60s)
                                    try have c60b2 : (9223372036854775807 < (x7_1 ++ x9_3).size + 2) = False := eq_false (Nat.not_lt.2 c60)
                                    have H' := Aside0.mk H
                                    clear H
                                    go_wp2_with (first | ((with_reducible refine gate_builtin (b := .append) (xs := #[.tmp 70, .tmp 72]) rfl ?_); (try (refine gate_guard (by rfl) ?_; dsimp only)); at_builtin; refine Kd.R_append Kd.string (w0 := w) w.heap.size rfl (.tmp 70) (.tmp 72) 23 9 (.string ⟨#[]⟩) 16 rfl Tryd.underlying23 info9 rfl (by decide) (by omega) u6 x6_1 x9_3 [.string x9_3] (fun _ => True) (fun _ => False) rfl rfl ?aP (fun _ hk => hk.elim) ?aF ?aO ?aB ?aS ?aL ?_; (case aP => exact rfl); (case aB => exact (by repeat (first | (with_reducible first | exact HB.out | apply below_alloc | apply pw_below_drewN | apply below_drew1) | exact HB.out))); (case aF => exact (fun _ _ => trivial)); (case aO => exact (by (with_reducible repeat (first | apply Kd.R_alloc | apply Kd.R_drewN | apply Kd.R_drew)); exact HO_6.out)); (case aS => exact (below_size (by repeat (first | (with_reducible first | exact HB.out | apply below_alloc | apply pw_below_drewN | apply below_drew1) | exact HB.out)))); (case aL => have := LMc26.out; omega); intro v123 w61 ho hb hg hat; rw [← Ny122.out] at ho; have n0_ := Aside0.mk (hb); have n1_ := Aside0.mk (ho); clear HB; clear HO_6; have HB := n0_; have HO124 := n1_; clear n0_ n1_; clear ho hb hg hat; have p125 : 0 ≤ (x8_1 : Int) := of_decide_eq_true (by first | (with_reducible assumption) | assumption); have q125 : x8_1 < (l1.length : Int) := of_decide_eq_true (by first | (with_reducible assumption) | assumption); obtain ⟨ad125, e125, hx125_0⟩ := Kd.at_int HR1.out x8_1 p125 q125; cases e125; replace hx125_0 := (HB.out.cell (World.block_lt_of_cell? w _ hx125_0)).trans hx125_0; replace p125 := eq_true p125; replace q125 := eq_true q125; have p126 : 0 ≤ (x8_1 : Int) := of_decide_eq_true (by first | (with_reducible assumption) | assumption); have q126 : x8_1 < (l1.length : Int) := of_decide_eq_true (by first | (with_reducible assumption) | assumption); obtain ⟨ad126, e126, hx126_0⟩ := Kd.at_int HR1.out x8_1 p126 q126; obtain rfl : ad125 = ad126 := (by injection e126); replace hx126_0 := (HB.out.cell (World.block_lt_of_cell? w _ hx126_0)).trans hx126_0; replace p126 := eq_true p126; replace q126 := eq_true q126))
                                    repeat (go_quiet (first | ((with_reducible refine gate_builtin (b := .append) (xs := #[.tmp 70, .tmp 72]) rfl ?_); (try (refine gate_guard (by rfl) ?_; dsimp only)); at_builtin; refine Kd.R_append Kd.string (w0 := w) w.heap.size rfl (.tmp 70) (.tmp 72) 23 9 (.string ⟨#[]⟩) 16 rfl Tryd.underlying23 info9 rfl (by decide) (by omega) u6 x6_1 x9_3 [.string x9_3] (fun _ => True) (fun _ => False) rfl rfl ?aP (fun _ hk => hk.elim) ?aF ?aO ?aB ?aS ?aL ?_; (case aP => exact rfl); (case aB => exact (by repeat (first | (with_reducible first | exact HB.out | apply below_alloc | apply pw_below_drewN | apply below_drew1) | exact HB.out))); (case aF => exact (fun _ _ => trivial)); (case aO => exact (by (with_reducible repeat (first | apply Kd.R_alloc | apply Kd.R_drewN | apply Kd.R_drew)); exact HO_6.out)); (case aS => exact (below_size (by repeat (first | (with_reducible first | exact HB.out | apply below_alloc | apply pw_below_drewN | apply below_drew1) | exact HB.out)))); (case aL => have := LMc26.out; omega); intro v123 w61 ho hb hg hat; rw [← Ny122.out] at ho; have n0_ := Aside0.mk (hb); have n1_ := Aside0.mk (ho); clear HB; clear HO_6; have HB := n0_; have HO124 := n1_; clear n0_ n1_; clear ho hb hg hat; have p125 : 0 ≤ (x8_1 : Int) := of_decide_eq_true (by first | (with_reducible assumption) | assumption); have q125 : x8_1 < (l1.length : Int) := of_decide_eq_true (by first | (with_reducible assumption) | assumption); obtain ⟨ad125, e125, hx125_0⟩ := Kd.at_int HR1.out x8_1 p125 q125; cases e125; replace hx125_0 := (HB.out.cell (World.block_lt_of_cell? w _ hx125_0)).trans hx125_0; replace p125 := eq_true p125; replace q125 := eq_true q125; have p126 : 0 ≤ (x8_1 : Int) := of_decide_eq_true (by first | (with_reducible assumption) | assumption); have q126 : x8_1 < (l1.length : Int) := of_decide_eq_true (by first | (with_reducible assumption) | assumption); obtain ⟨ad126, e126, hx126_0⟩ := Kd.at_int HR1.out x8_1 p126 q126; obtain rfl : ad125 = ad126 := (by injection e126); replace hx126_0 := (HB.out.cell (World.block_lt_of_cell? w _ hx126_0)).trans hx126_0; replace p126 := eq_true p126; replace q126 := eq_true q126)); try go_wp2_with (first | ((with_reducible refine gate_builtin (b := .append) (xs := #[.tmp 70, .tmp 72]) rfl ?_); (try (refine gate_guard (by rfl) ?_; dsimp only)); at_builtin; refine Kd.R_append Kd.string (w0 := w) w.heap.size rfl (.tmp 70) (.tmp 72) 23 9 (.string ⟨#[]⟩) 16 rfl Tryd.underlying23 info9 rfl (by decide) (by omega) u6 x6_1 x9_3 [.string x9_3] (fun _ => True) (fun _ => False) rfl rfl ?aP (fun _ hk => hk.elim) ?aF ?aO ?aB ?aS ?aL ?_; (case aP => exact rfl); (case aB => exact (by repeat (first | (with_reducible first | exact HB.out | apply below_alloc | apply pw_below_drewN | apply below_drew1) | exact HB.out))); (case aF => exact (fun _ _ => trivial)); (case aO => exact (by (with_reducible repeat (first | apply Kd.R_alloc | apply Kd.R_drewN | apply Kd.R_drew)); exact HO_6.out)); (case aS => exact (below_size (by repeat (first | (with_reducible first | exact HB.out | apply below_alloc | apply pw_below_drewN | apply below_drew1) | exact HB.out)))); (case aL => have := LMc26.out; omega); intro v123 w61 ho hb hg hat; rw [← Ny122.out] at ho; have n0_ := Aside0.mk (hb); have n1_ := Aside0.mk (ho); clear HB; clear HO_6; have HB := n0_; have HO124 := n1_; clear n0_ n1_; clear ho hb hg hat; have p125 : 0 ≤ (x8_1 : Int) := of_decide_eq_true (by first | (with_reducible assumption) | assumption); have q125 : x8_1 < (l1.length : Int) := of_decide_eq_true (by first | (with_reducible assumption) | assumption); obtain ⟨ad125, e125, hx125_0⟩ := Kd.at_int HR1.out x8_1 p125 q125; cases e125; replace hx125_0 := (HB.out.cell (World.block_lt_of_cell? w _ hx125_0)).trans hx125_0; replace p125 := eq_true p125; replace q125 := eq_true q125; have p126 : 0 ≤ (x8_1 : Int) := of_decide_eq_true (by first | (with_reducible assumption) | assumption); have q126 : x8_1 < (l1.length : Int) := of_decide_eq_true (by first | (with_reducible assumption) | assumption); obtain ⟨ad126, e126, hx126_0⟩ := Kd.at_int HR1.out x8_1 p126 q126; obtain rfl : ad125 = ad126 := (by injection e126); replace hx126_0 := (HB.out.cell (World.block_lt_of_cell? w _ hx126_0)).trans hx126_0; replace p126 := eq_true p126; replace q126 := eq_true q126)))
                                    go_roundg kj8
                                    case measure => have := HK1.out; have := HJ4.out; have := HK3.out; have := HJ8.out; omega
                                    case rel => exact ⟨(y122), ((x7_1 ++ x9_3) ++ (⟨#[13, 10]⟩ : ByteArray)), (wrap64 (x8_1 + 1)), (by first | rfl | (simp; done) | (simp [*]; done)), (by first | rfl | (simp; done) | (simp [*]; done)), H', ⟨by have := HK1.out; have := HJ4.out; have := HK3.out; have := HJ8.out; omega⟩, ⟨by (with_reducible repeat (first | apply Kd.R_alloc | apply Kd.R_drewN | apply Kd.R_drew)); exact HO124.out⟩, ⟨by repeat (first | (with_reducible first | exact HB.out | apply below_alloc | apply pw_below_drewN | apply below_drew1) | exact HB.out)⟩⟩
                                  · rw [if_neg c60] at H
                                    exact absurd H (by simp)
                                · rw [if_neg c59] at H
                                  exact absurd H (by simp)
                            · rw [if_neg c29] at H
                              have c29b0 : ((Go.bits .and .i64 (rd l1 x8_1) 3) == 1) = false := beq_eq_false_iff_ne.mpr c29
                              have c29b1 : ((Go.bits .and .i64 (rd l1 x8_1) 3) != 1) = true := bne_iff_ne.mpr c29
                              by_cases c62 : (Go.bits .and .i64 (rd l1 x8_1) 3) = 2
                              · rw [if_pos c62] at H
                                have c62b0 : ((Go.bits .and .i64 (rd l1 x8_1) 3) == 2) = true := beq_iff_eq.mpr c62
                                have c62b1 : ((Go.bits .and .i64 (rd l1 x8_1) 3) != 2) = false := bne_eq_false_iff_eq.mpr c62
                                clear c62
                                by_cases c63 : (wrap64 (x8_1 + 1)) < (l0.length : Int)
                                · rw [if_pos c63] at H
                                  have c63b0 : decide ((wrap64 (x8_1 + 1)) < (l0.length : Int)) = true := decide_eq_true c63
                                  clear c63
                                  by_cases c64 : (wrap64 (x8_1 + 1)) < (l1.length : Int)
                                  · rw [if_pos c64] at H
                                    have c64b0 : decide ((wrap64 (x8_1 + 1)) < (l1.length : Int)) = true := decide_eq_true c64
                                    clear c64
                                    obtain ⟨ji65, hji65⟩ : ∃ j_ : Int, (wrap64 (x8_1 + 1)) = j_ := ⟨_, rfl⟩
                                    replace H : (if 0 ≤ (ji65) then (if (rdOf ByteArray.empty l0 (ji65)).toList = ([] : List UInt8) then (if x7_1.size + x9_3.size ≤ 9223372036854775807 then (if (x7_1 ++ x9_3).size + 1 ≤ 9223372036854775807 then (scriptoriumlaw01_RunesJoin.l0 kj8 l0 l1 t117 y122 ((x7_1 ++ x9_3) ++ (⟨#[10]⟩ : ByteArray)) ji65) else (none)) else (none)) else (if 0 < ((rdOf ByteArray.empty l0 (ji65)).size : Int) then (if (bt (rdOf ByteArray.empty l0 (ji65)) 0) = 10 then (if x7_1.size + x9_3.size ≤ 9223372036854775807 then (if (x7_1 ++ x9_3).size + 1 ≤ 9223372036854775807 then (scriptoriumlaw01_RunesJoin.l0 kj8 l0 l1 t117 y122 ((x7_1 ++ x9_3) ++ (⟨#[10]⟩ : ByteArray)) ji65) else (none)) else (none)) else (if (bt (rdOf ByteArray.empty l0 (ji65)) 0) = 13 then (if x7_1.size + x9_3.size ≤ 9223372036854775807 then (if (x7_1 ++ x9_3).size + 1 ≤ 9223372036854775807 then (scriptoriumlaw01_RunesJoin.l0 kj8 l0 l1 t117 y122 ((x7_1 ++ x9_3) ++ (⟨#[10]⟩ : ByteArray)) ji65) else (none)) else (none)) else (if x7_1.size + x9_3.size ≤ 9223372036854775807 then (if (x7_1 ++ x9_3).size + 1 ≤ 9223372036854775807 then (scriptoriumlaw01_RunesJoin.l0 kj8 l0 l1 t117 y122 ((x7_1 ++ x9_3) ++ (⟨#[13]⟩ : ByteArray)) ji65) else (none)) else (none)))) else (none))) else (none)) = some r := by first | (rw [hji65] at H; exact H) | (simp only [hji65] at H ⊢; exact H)
                                    (try rw [hji65] at c63b0)
                                    (try rw [hji65] at c64b0)
                                    have hji65w : (IntKind.i64.wrap (x8_1 + 1)) = ji65 := (i64_w _).trans hji65
                                    by_cases c66 : 0 ≤ (ji65)
                                    · rw [if_pos c66] at H
                                      have c66b0 : decide (0 ≤ (ji65)) = true := decide_eq_true c66
                                      clear c66
                                      by_cases c67 : (rdOf ByteArray.empty l0 (ji65)).toList = ([] : List UInt8)
                                      · rw [if_pos c67] at H
                                        have c67b0 : ((rdOf ByteArray.empty l0 (ji65)).toList == ([] : List UInt8)) = true := beq_iff_eq.mpr c67
                                        have c67b1 : ((rdOf ByteArray.empty l0 (ji65)).toList != ([] : List UInt8)) = false := bne_eq_false_iff_eq.mpr c67
                                        clear c67
                                        by_cases c68 : x7_1.size + x9_3.size ≤ 9223372036854775807
                                        · rw [if_pos c68] at H
                                          have c68b0 := eq_true c68
                                          have c68b1 : decide (x7_1.size + x9_3.size ≤ 9223372036854775807) = true := decide_eq_true c68
                                          try have c68b2 : (9223372036854775807 < x7_1.size + x9_3.size) = False := eq_false (Nat.not_lt.2 c68)
                                          by_cases c69 : (x7_1 ++ x9_3).size + 1 ≤ 9223372036854775807
                                          · rw [if_pos c69] at H
                                            have c69b0 := eq_true c69
                                            have c69b1 : decide ((x7_1 ++ x9_3).size + 1 ≤ 9223372036854775807) = true := decide_eq_true c69
                                            have c69s : x7_1.size + x9_3.size + 1 ≤ 9223372036854775807 := by rw [← ByteArray.size_append]; exact c69
                                            have c69s0 := eq_true c69s
                                            have c69s1 : decide (x7_1.size + x9_3.size + 1 ≤ 9223372036854775807) = true := decide_eq_true c69s
                                            have c69s2 : (9223372036854775807 < x7_1.size + x9_3.size + 1) = False := eq_false (Nat.not_lt.2 c69s)
                                            try have c69b2 : (9223372036854775807 < (x7_1 ++ x9_3).size + 1) = False := eq_false (Nat.not_lt.2 c69)
                                            have H' := Aside0.mk H
                                            clear H
                                            go_wp2_with (first | ((with_reducible refine gate_builtin (b := .append) (xs := #[.tmp 70, .tmp 72]) rfl ?_); (try (refine gate_guard (by rfl) ?_; dsimp only)); at_builtin; refine Kd.R_append Kd.string (w0 := w) w.heap.size rfl (.tmp 70) (.tmp 72) 23 9 (.string ⟨#[]⟩) 16 rfl Tryd.underlying23 info9 rfl (by decide) (by omega) u6 x6_1 x9_3 [.string x9_3] (fun _ => True) (fun _ => False) rfl rfl ?aP (fun _ hk => hk.elim) ?aF ?aO ?aB ?aS ?aL ?_; (case aP => exact rfl); (case aB => exact (by repeat (first | (with_reducible first | exact HB.out | apply below_alloc | apply pw_below_drewN | apply below_drew1) | exact HB.out))); (case aF => exact (fun _ _ => trivial)); (case aO => exact (by (with_reducible repeat (first | apply Kd.R_alloc | apply Kd.R_drewN | apply Kd.R_drew)); exact HO_6.out)); (case aS => exact (below_size (by repeat (first | (with_reducible first | exact HB.out | apply below_alloc | apply pw_below_drewN | apply below_drew1) | exact HB.out)))); (case aL => have := LMc26.out; omega); intro v123 w70 ho hb hg hat; rw [← Ny122.out] at ho; have n0_ := Aside0.mk (hb); have n1_ := Aside0.mk (ho); clear HB; clear HO_6; have HB := n0_; have HO124 := n1_; clear n0_ n1_; clear ho hb hg hat; have p125 : 0 ≤ (x8_1 : Int) := of_decide_eq_true (by first | (with_reducible assumption) | assumption); have q125 : x8_1 < (l1.length : Int) := of_decide_eq_true (by first | (with_reducible assumption) | assumption); obtain ⟨ad125, e125, hx125_0⟩ := Kd.at_int HR1.out x8_1 p125 q125; cases e125; replace hx125_0 := (HB.out.cell (World.block_lt_of_cell? w _ hx125_0)).trans hx125_0; replace p125 := eq_true p125; replace q125 := eq_true q125; have p130 : 0 ≤ (x8_1 : Int) := of_decide_eq_true (by first | (with_reducible assumption) | assumption); have q130 : x8_1 < (l1.length : Int) := of_decide_eq_true (by first | (with_reducible assumption) | assumption); obtain ⟨ad130, e130, hx130_0⟩ := Kd.at_int HR1.out x8_1 p130 q130; obtain rfl : ad125 = ad130 := (by injection e130); replace hx130_0 := (HB.out.cell (World.block_lt_of_cell? w _ hx130_0)).trans hx130_0; replace p130 := eq_true p130; replace q130 := eq_true q130; have p131 : 0 ≤ ((ji65) : Int) := of_decide_eq_true (by first | (with_reducible assumption) | assumption); have q131 : (ji65) < (l0.length : Int) := of_decide_eq_true (by first | (with_reducible assumption) | assumption); obtain ⟨ad131, e131, hx131_0⟩ := Kd.at_string HR0.out (ji65) p131 q131; cases e131; replace hx131_0 := (HB.out.cell (World.block_lt_of_cell? w _ hx131_0)).trans hx131_0; replace p131 := eq_true p131; replace q131 := eq_true q131))
                                            repeat (go_quiet (first | ((with_reducible refine gate_builtin (b := .append) (xs := #[.tmp 70, .tmp 72]) rfl ?_); (try (refine gate_guard (by rfl) ?_; dsimp only)); at_builtin; refine Kd.R_append Kd.string (w0 := w) w.heap.size rfl (.tmp 70) (.tmp 72) 23 9 (.string ⟨#[]⟩) 16 rfl Tryd.underlying23 info9 rfl (by decide) (by omega) u6 x6_1 x9_3 [.string x9_3] (fun _ => True) (fun _ => False) rfl rfl ?aP (fun _ hk => hk.elim) ?aF ?aO ?aB ?aS ?aL ?_; (case aP => exact rfl); (case aB => exact (by repeat (first | (with_reducible first | exact HB.out | apply below_alloc | apply pw_below_drewN | apply below_drew1) | exact HB.out))); (case aF => exact (fun _ _ => trivial)); (case aO => exact (by (with_reducible repeat (first | apply Kd.R_alloc | apply Kd.R_drewN | apply Kd.R_drew)); exact HO_6.out)); (case aS => exact (below_size (by repeat (first | (with_reducible first | exact HB.out | apply below_alloc | apply pw_below_drewN | apply below_drew1) | exact HB.out)))); (case aL => have := LMc26.out; omega); intro v123 w70 ho hb hg hat; rw [← Ny122.out] at ho; have n0_ := Aside0.mk (hb); have n1_ := Aside0.mk (ho); clear HB; clear HO_6; have HB := n0_; have HO124 := n1_; clear n0_ n1_; clear ho hb hg hat; have p125 : 0 ≤ (x8_1 : Int) := of_decide_eq_true (by first | (with_reducible assumption) | assumption); have q125 : x8_1 < (l1.length : Int) := of_decide_eq_true (by first | (with_reducible assumption) | assumption); obtain ⟨ad125, e125, hx125_0⟩ := Kd.at_int HR1.out x8_1 p125 q125; cases e125; replace hx125_0 := (HB.out.cell (World.block_lt_of_cell? w _ hx125_0)).trans hx125_0; replace p125 := eq_true p125; replace q125 := eq_true q125; have p130 : 0 ≤ (x8_1 : Int) := of_decide_eq_true (by first | (with_reducible assumption) | assumption); have q130 : x8_1 < (l1.length : Int) := of_decide_eq_true (by first | (with_reducible assumption) | assumption); obtain ⟨ad130, e130, hx130_0⟩ := Kd.at_int HR1.out x8_1 p130 q130; obtain rfl : ad125 = ad130 := (by injection e130); replace hx130_0 := (HB.out.cell (World.block_lt_of_cell? w _ hx130_0)).trans hx130_0; replace p130 := eq_true p130; replace q130 := eq_true q130; have p131 : 0 ≤ ((ji65) : Int) := of_decide_eq_true (by first | (with_reducible assumption) | assumption); have q131 : (ji65) < (l0.length : Int) := of_decide_eq_true (by first | (with_reducible assumption) | assumption); obtain ⟨ad131, e131, hx131_0⟩ := Kd.at_string HR0.out (ji65) p131 q131; cases e131; replace hx131_0 := (HB.out.cell (World.block_lt_of_cell? w _ hx131_0)).trans hx131_0; replace p131 := eq_true p131; replace q131 := eq_true q131)); try go_wp2_with (first | ((with_reducible refine gate_builtin (b := .append) (xs := #[.tmp 70, .tmp 72]) rfl ?_); (try (refine gate_guard (by rfl) ?_; dsimp only)); at_builtin; refine Kd.R_append Kd.string (w0 := w) w.heap.size rfl (.tmp 70) (.tmp 72) 23 9 (.string ⟨#[]⟩) 16 rfl Tryd.underlying23 info9 rfl (by decide) (by omega) u6 x6_1 x9_3 [.string x9_3] (fun _ => True) (fun _ => False) rfl rfl ?aP (fun _ hk => hk.elim) ?aF ?aO ?aB ?aS ?aL ?_; (case aP => exact rfl); (case aB => exact (by repeat (first | (with_reducible first | exact HB.out | apply below_alloc | apply pw_below_drewN | apply below_drew1) | exact HB.out))); (case aF => exact (fun _ _ => trivial)); (case aO => exact (by (with_reducible repeat (first | apply Kd.R_alloc | apply Kd.R_drewN | apply Kd.R_drew)); exact HO_6.out)); (case aS => exact (below_size (by repeat (first | (with_reducible first | exact HB.out | apply below_alloc | apply pw_below_drewN | apply below_drew1) | exact HB.out)))); (case aL => have := LMc26.out; omega); intro v123 w70 ho hb hg hat; rw [← Ny122.out] at ho; have n0_ := Aside0.mk (hb); have n1_ := Aside0.mk (ho); clear HB; clear HO_6; have HB := n0_; have HO124 := n1_; clear n0_ n1_; clear ho hb hg hat; have p125 : 0 ≤ (x8_1 : Int) := of_decide_eq_true (by first | (with_reducible assumption) | assumption); have q125 : x8_1 < (l1.length : Int) := of_decide_eq_true (by first | (with_reducible assumption) | assumption); obtain ⟨ad125, e125, hx125_0⟩ := Kd.at_int HR1.out x8_1 p125 q125; cases e125; replace hx125_0 := (HB.out.cell (World.block_lt_of_cell? w _ hx125_0)).trans hx125_0; replace p125 := eq_true p125; replace q125 := eq_true q125; have p130 : 0 ≤ (x8_1 : Int) := of_decide_eq_true (by first | (with_reducible assumption) | assumption); have q130 : x8_1 < (l1.length : Int) := of_decide_eq_true (by first | (with_reducible assumption) | assumption); obtain ⟨ad130, e130, hx130_0⟩ := Kd.at_int HR1.out x8_1 p130 q130; obtain rfl : ad125 = ad130 := (by injection e130); replace hx130_0 := (HB.out.cell (World.block_lt_of_cell? w _ hx130_0)).trans hx130_0; replace p130 := eq_true p130; replace q130 := eq_true q130; have p131 : 0 ≤ ((ji65) : Int) := of_decide_eq_true (by first | (with_reducible assumption) | assumption); have q131 : (ji65) < (l0.length : Int) := of_decide_eq_true (by first | (with_reducible assumption) | assumption); obtain ⟨ad131, e131, hx131_0⟩ := Kd.at_string HR0.out (ji65) p131 q131; cases e131; replace hx131_0 := (HB.out.cell (World.block_lt_of_cell? w _ hx131_0)).trans hx131_0; replace p131 := eq_true p131; replace q131 := eq_true q131)))
                                            go_roundg kj8
                                            case measure => have := HK1.out; have := HJ4.out; have := HK3.out; have := HJ8.out; omega
                                            case rel => exact ⟨(y122), ((x7_1 ++ x9_3) ++ (⟨#[10]⟩ : ByteArray)), (ji65), (by first | rfl | (simp; done) | (simp [*]; done)), (by first | rfl | (simp; done) | (simp only [← hji65] <;> (first | rfl | simp)) | (simp [*]; done)), H', ⟨by have := HK1.out; have := HJ4.out; have := HK3.out; have := HJ8.out; omega⟩, ⟨by (with_reducible repeat (first | apply Kd.R_alloc | apply Kd.R_drewN | apply Kd.R_drew)); exact HO124.out⟩, ⟨by repeat (first | (with_reducible first | exact HB.out | apply below_alloc | apply pw_below_drewN | apply below_drew1) | exact HB.out)⟩⟩
                                          · rw [if_neg c69] at H
                                            exact absurd H (by simp)
                                        · rw [if_neg c68] at H
                                          exact absurd H (by simp)
                                      · rw [if_neg c67] at H
                                        have c67b0 : ((rdOf ByteArray.empty l0 (ji65)).toList == ([] : List UInt8)) = false := beq_eq_false_iff_ne.mpr c67
                                        have c67b1 : ((rdOf ByteArray.empty l0 (ji65)).toList != ([] : List UInt8)) = true := bne_iff_ne.mpr c67
                                        by_cases c71 : 0 < ((rdOf ByteArray.empty l0 (ji65)).size : Int)
                                        · rw [if_pos c71] at H
                                          have c71b0 : decide (0 < ((rdOf ByteArray.empty l0 (ji65)).size : Int)) = true := decide_eq_true c71
                                          have c71b1 : decide (0 < (rdOf ByteArray.empty l0 (ji65)).size) = true := decide_eq_true (by omega)
                                          clear c71
                                          by_cases c73 : (bt (rdOf ByteArray.empty l0 (ji65)) 0) = 10
                                          · rw [if_pos c73] at H
                                            have c73b0 : ((bt (rdOf ByteArray.empty l0 (ji65)) 0) == 10) = true := beq_iff_eq.mpr c73
                                            have c73b1 : ((bt (rdOf ByteArray.empty l0 (ji65)) 0) != 10) = false := bne_eq_false_iff_eq.mpr c73
                                            clear c73
                                            by_cases c74 : x7_1.size + x9_3.size ≤ 9223372036854775807
                                            · rw [if_pos c74] at H
                                              have c74b0 := eq_true c74
                                              have c74b1 : decide (x7_1.size + x9_3.size ≤ 9223372036854775807) = true := decide_eq_true c74
                                              try have c74b2 : (9223372036854775807 < x7_1.size + x9_3.size) = False := eq_false (Nat.not_lt.2 c74)
                                              by_cases c75 : (x7_1 ++ x9_3).size + 1 ≤ 9223372036854775807
                                              · rw [if_pos c75] at H
                                                have c75b0 := eq_true c75
                                                have c75b1 : decide ((x7_1 ++ x9_3).size + 1 ≤ 9223372036854775807) = true := decide_eq_true c75
                                                have c75s : x7_1.size + x9_3.size + 1 ≤ 9223372036854775807 := by rw [← ByteArray.size_append]; exact c75
                                                have c75s0 := eq_true c75s
                                                have c75s1 : decide (x7_1.size + x9_3.size + 1 ≤ 9223372036854775807) = true := decide_eq_true c75s
                                                have c75s2 : (9223372036854775807 < x7_1.size + x9_3.size + 1) = False := eq_false (Nat.not_lt.2 c75s)
                                                try have c75b2 : (9223372036854775807 < (x7_1 ++ x9_3).size + 1) = False := eq_false (Nat.not_lt.2 c75)
                                                have H' := Aside0.mk H
                                                clear H
                                                go_wp2_with (first | ((with_reducible refine gate_builtin (b := .append) (xs := #[.tmp 70, .tmp 72]) rfl ?_); (try (refine gate_guard (by rfl) ?_; dsimp only)); at_builtin; refine Kd.R_append Kd.string (w0 := w) w.heap.size rfl (.tmp 70) (.tmp 72) 23 9 (.string ⟨#[]⟩) 16 rfl Tryd.underlying23 info9 rfl (by decide) (by omega) u6 x6_1 x9_3 [.string x9_3] (fun _ => True) (fun _ => False) rfl rfl ?aP (fun _ hk => hk.elim) ?aF ?aO ?aB ?aS ?aL ?_; (case aP => exact rfl); (case aB => exact (by repeat (first | (with_reducible first | exact HB.out | apply below_alloc | apply pw_below_drewN | apply below_drew1) | exact HB.out))); (case aF => exact (fun _ _ => trivial)); (case aO => exact (by (with_reducible repeat (first | apply Kd.R_alloc | apply Kd.R_drewN | apply Kd.R_drew)); exact HO_6.out)); (case aS => exact (below_size (by repeat (first | (with_reducible first | exact HB.out | apply below_alloc | apply pw_below_drewN | apply below_drew1) | exact HB.out)))); (case aL => have := LMc26.out; omega); intro v123 w76 ho hb hg hat; rw [← Ny122.out] at ho; have n0_ := Aside0.mk (hb); have n1_ := Aside0.mk (ho); clear HB; clear HO_6; have HB := n0_; have HO124 := n1_; clear n0_ n1_; clear ho hb hg hat; have p125 : 0 ≤ (x8_1 : Int) := of_decide_eq_true (by first | (with_reducible assumption) | assumption); have q125 : x8_1 < (l1.length : Int) := of_decide_eq_true (by first | (with_reducible assumption) | assumption); obtain ⟨ad125, e125, hx125_0⟩ := Kd.at_int HR1.out x8_1 p125 q125; cases e125; replace hx125_0 := (HB.out.cell (World.block_lt_of_cell? w _ hx125_0)).trans hx125_0; replace p125 := eq_true p125; replace q125 := eq_true q125; have p130 : 0 ≤ (x8_1 : Int) := of_decide_eq_true (by first | (with_reducible assumption) | assumption); have q130 : x8_1 < (l1.length : Int) := of_decide_eq_true (by first | (with_reducible assumption) | assumption); obtain ⟨ad130, e130, hx130_0⟩ := Kd.at_int HR1.out x8_1 p130 q130; obtain rfl : ad125 = ad130 := (by injection e130); replace hx130_0 := (HB.out.cell (World.block_lt_of_cell? w _ hx130_0)).trans hx130_0; replace p130 := eq_true p130; replace q130 := eq_true q130; have p131 : 0 ≤ ((ji65) : Int) := of_decide_eq_true (by first | (with_reducible assumption) | assumption); have q131 : (ji65) < (l0.length : Int) := of_decide_eq_true (by first | (with_reducible assumption) | assumption); obtain ⟨ad131, e131, hx131_0⟩ := Kd.at_string HR0.out (ji65) p131 q131; cases e131; replace hx131_0 := (HB.out.cell (World.block_lt_of_cell? w _ hx131_0)).trans hx131_0; replace p131 := eq_true p131; replace q131 := eq_true q131; have p132 : 0 ≤ ((ji65) : Int) := of_decide_eq_true (by first | (with_reducible assumption) | assumption); have q132 : (ji65) < (l0.length : Int) := of_decide_eq_true (by first | (with_reducible assumption) | assumption); obtain ⟨ad132, e132, hx132_0⟩ := Kd.at_string HR0.out (ji65) p132 q132; obtain rfl : ad131 = ad132 := (by injection e132); replace hx132_0 := (HB.out.cell (World.block_lt_of_cell? w _ hx132_0)).trans hx132_0; replace p132 := eq_true p132; replace q132 := eq_true q132; have p72 : 0 ≤ (0 : Int) := (by omega); have q72 : 0 < (rdOf ByteArray.empty l0 (ji65)).size := (by have : (0 : Int) < ((rdOf ByteArray.empty l0 (ji65)).size : Int) := of_decide_eq_true (by first | (with_reducible assumption) | assumption); omega); have hx72 : ∀ h : 0 < (rdOf ByteArray.empty l0 (ji65)).size, (((rdOf ByteArray.empty l0 (ji65))[0]'h).toNat : Int) = bt (rdOf ByteArray.empty l0 (ji65)) 0 := bt_at (rdOf ByteArray.empty l0 (ji65)) 0; clear p72; have qi72 : (0 < ((rdOf ByteArray.empty l0 (ji65)).size : Int)) = True := eq_true (of_decide_eq_true (by first | (with_reducible assumption) | assumption)); replace q72 := eq_true q72))
                                                repeat (go_quiet (first | ((with_reducible refine gate_builtin (b := .append) (xs := #[.tmp 70, .tmp 72]) rfl ?_); (try (refine gate_guard (by rfl) ?_; dsimp only)); at_builtin; refine Kd.R_append Kd.string (w0 := w) w.heap.size rfl (.tmp 70) (.tmp 72) 23 9 (.string ⟨#[]⟩) 16 rfl Tryd.underlying23 info9 rfl (by decide) (by omega) u6 x6_1 x9_3 [.string x9_3] (fun _ => True) (fun _ => False) rfl rfl ?aP (fun _ hk => hk.elim) ?aF ?aO ?aB ?aS ?aL ?_; (case aP => exact rfl); (case aB => exact (by repeat (first | (with_reducible first | exact HB.out | apply below_alloc | apply pw_below_drewN | apply below_drew1) | exact HB.out))); (case aF => exact (fun _ _ => trivial)); (case aO => exact (by (with_reducible repeat (first | apply Kd.R_alloc | apply Kd.R_drewN | apply Kd.R_drew)); exact HO_6.out)); (case aS => exact (below_size (by repeat (first | (with_reducible first | exact HB.out | apply below_alloc | apply pw_below_drewN | apply below_drew1) | exact HB.out)))); (case aL => have := LMc26.out; omega); intro v123 w76 ho hb hg hat; rw [← Ny122.out] at ho; have n0_ := Aside0.mk (hb); have n1_ := Aside0.mk (ho); clear HB; clear HO_6; have HB := n0_; have HO124 := n1_; clear n0_ n1_; clear ho hb hg hat; have p125 : 0 ≤ (x8_1 : Int) := of_decide_eq_true (by first | (with_reducible assumption) | assumption); have q125 : x8_1 < (l1.length : Int) := of_decide_eq_true (by first | (with_reducible assumption) | assumption); obtain ⟨ad125, e125, hx125_0⟩ := Kd.at_int HR1.out x8_1 p125 q125; cases e125; replace hx125_0 := (HB.out.cell (World.block_lt_of_cell? w _ hx125_0)).trans hx125_0; replace p125 := eq_true p125; replace q125 := eq_true q125; have p130 : 0 ≤ (x8_1 : Int) := of_decide_eq_true (by first | (with_reducible assumption) | assumption); have q130 : x8_1 < (l1.length : Int) := of_decide_eq_true (by first | (with_reducible assumption) | assumption); obtain ⟨ad130, e130, hx130_0⟩ := Kd.at_int HR1.out x8_1 p130 q130; obtain rfl : ad125 = ad130 := (by injection e130); replace hx130_0 := (HB.out.cell (World.block_lt_of_cell? w _ hx130_0)).trans hx130_0; replace p130 := eq_true p130; replace q130 := eq_true q130; have p131 : 0 ≤ ((ji65) : Int) := of_decide_eq_true (by first | (with_reducible assumption) | assumption); have q131 : (ji65) < (l0.length : Int) := of_decide_eq_true (by first | (with_reducible assumption) | assumption); obtain ⟨ad131, e131, hx131_0⟩ := Kd.at_string HR0.out (ji65) p131 q131; cases e131; replace hx131_0 := (HB.out.cell (World.block_lt_of_cell? w _ hx131_0)).trans hx131_0; replace p131 := eq_true p131; replace q131 := eq_true q131; have p132 : 0 ≤ ((ji65) : Int) := of_decide_eq_true (by first | (with_reducible assumption) | assumption); have q132 : (ji65) < (l0.length : Int) := of_decide_eq_true (by first | (with_reducible assumption) | assumption); obtain ⟨ad132, e132, hx132_0⟩ := Kd.at_string HR0.out (ji65) p132 q132; obtain rfl : ad131 = ad132 := (by injection e132); replace hx132_0 := (HB.out.cell (World.block_lt_of_cell? w _ hx132_0)).trans hx132_0; replace p132 := eq_true p132; replace q132 := eq_true q132; have p72 : 0 ≤ (0 : Int) := (by omega); have q72 : 0 < (rdOf ByteArray.empty l0 (ji65)).size := (by have : (0 : Int) < ((rdOf ByteArray.empty l0 (ji65)).size : Int) := of_decide_eq_true (by first | (with_reducible assumption) | assumption); omega); have hx72 : ∀ h : 0 < (rdOf ByteArray.empty l0 (ji65)).size, (((rdOf ByteArray.empty l0 (ji65))[0]'h).toNat : Int) = bt (rdOf ByteArray.empty l0 (ji65)) 0 := bt_at (rdOf ByteArray.empty l0 (ji65)) 0; clear p72; have qi72 : (0 < ((rdOf ByteArray.empty l0 (ji65)).size : Int)) = True := eq_true (of_decide_eq_true (by first | (with_reducible assumption) | assumption)); replace q72 := eq_true q72)); try go_wp2_with (first | ((with_reducible refine gate_builtin (b := .append) (xs := #[.tmp 70, .tmp 72]) rfl ?_); (try (refine gate_guard (by rfl) ?_; dsimp only)); at_builtin; refine Kd.R_append Kd.string (w0 := w) w.heap.size rfl (.tmp 70) (.tmp 72) 23 9 (.string ⟨#[]⟩) 16 rfl Tryd.underlying23 info9 rfl (by decide) (by omega) u6 x6_1 x9_3 [.string x9_3] (fun _ => True) (fun _ => False) rfl rfl ?aP (fun _ hk => hk.elim) ?aF ?aO ?aB ?aS ?aL ?_; (case aP => exact rfl); (case aB => exact (by repeat (first | (with_reducible first | exact HB.out | apply below_alloc | apply pw_below_drewN | apply below_drew1) | exact HB.out))); (case aF => exact (fun _ _ => trivial)); (case aO => exact (by (with_reducible repeat (first | apply Kd.R_alloc | apply Kd.R_drewN | apply Kd.R_drew)); exact HO_6.out)); (case aS => exact (below_size (by repeat (first | (with_reducible first | exact HB.out | apply below_alloc | apply pw_below_drewN | apply below_drew1) | exact HB.out)))); (case aL => have := LMc26.out; omega); intro v123 w76 ho hb hg hat; rw [← Ny122.out] at ho; have n0_ := Aside0.mk (hb); have n1_ := Aside0.mk (ho); clear HB; clear HO_6; have HB := n0_; have HO124 := n1_; clear n0_ n1_; clear ho hb hg hat; have p125 : 0 ≤ (x8_1 : Int) := of_decide_eq_true (by first | (with_reducible assumption) | assumption); have q125 : x8_1 < (l1.length : Int) := of_decide_eq_true (by first | (with_reducible assumption) | assumption); obtain ⟨ad125, e125, hx125_0⟩ := Kd.at_int HR1.out x8_1 p125 q125; cases e125; replace hx125_0 := (HB.out.cell (World.block_lt_of_cell? w _ hx125_0)).trans hx125_0; replace p125 := eq_true p125; replace q125 := eq_true q125; have p130 : 0 ≤ (x8_1 : Int) := of_decide_eq_true (by first | (with_reducible assumption) | assumption); have q130 : x8_1 < (l1.length : Int) := of_decide_eq_true (by first | (with_reducible assumption) | assumption); obtain ⟨ad130, e130, hx130_0⟩ := Kd.at_int HR1.out x8_1 p130 q130; obtain rfl : ad125 = ad130 := (by injection e130); replace hx130_0 := (HB.out.cell (World.block_lt_of_cell? w _ hx130_0)).trans hx130_0; replace p130 := eq_true p130; replace q130 := eq_true q130; have p131 : 0 ≤ ((ji65) : Int) := of_decide_eq_true (by first | (with_reducible assumption) | assumption); have q131 : (ji65) < (l0.length : Int) := of_decide_eq_true (by first | (with_reducible assumption) | assumption); obtain ⟨ad131, e131, hx131_0⟩ := Kd.at_string HR0.out (ji65) p131 q131; cases e131; replace hx131_0 := (HB.out.cell (World.block_lt_of_cell? w _ hx131_0)).trans hx131_0; replace p131 := eq_true p131; replace q131 := eq_true q131; have p132 : 0 ≤ ((ji65) : Int) := of_decide_eq_true (by first | (with_reducible assumption) | assumption); have q132 : (ji65) < (l0.length : Int) := of_decide_eq_true (by first | (with_reducible assumption) | assumption); obtain ⟨ad132, e132, hx132_0⟩ := Kd.at_string HR0.out (ji65) p132 q132; obtain rfl : ad131 = ad132 := (by injection e132); replace hx132_0 := (HB.out.cell (World.block_lt_of_cell? w _ hx132_0)).trans hx132_0; replace p132 := eq_true p132; replace q132 := eq_true q132; have p72 : 0 ≤ (0 : Int) := (by omega); have q72 : 0 < (rdOf ByteArray.empty l0 (ji65)).size := (by have : (0 : Int) < ((rdOf ByteArray.empty l0 (ji65)).size : Int) := of_decide_eq_true (by first | (with_reducible assumption) | assumption); omega); have hx72 : ∀ h : 0 < (rdOf ByteArray.empty l0 (ji65)).size, (((rdOf ByteArray.empty l0 (ji65))[0]'h).toNat : Int) = bt (rdOf ByteArray.empty l0 (ji65)) 0 := bt_at (rdOf ByteArray.empty l0 (ji65)) 0; clear p72; have qi72 : (0 < ((rdOf ByteArray.empty l0 (ji65)).size : Int)) = True := eq_true (of_decide_eq_true (by first | (with_reducible assumption) | assumption)); replace q72 := eq_true q72)))
                                                go_roundg kj8
                                                case measure => have := HK1.out; have := HJ4.out; have := HK3.out; have := HJ8.out; omega
                                                case rel => exact ⟨(y122), ((x7_1 ++ x9_3) ++ (⟨#[10]⟩ : ByteArray)), (ji65), (by first | rfl | (simp; done) | (simp [*]; done)), (by first | rfl | (simp; done) | (simp only [← hji65] <;> (first | rfl | simp)) | (simp [*]; done)), H', ⟨by have := HK1.out; have := HJ4.out; have := HK3.out; have := HJ8.out; omega⟩, ⟨by (with_reducible repeat (first | apply Kd.R_alloc | apply Kd.R_drewN | apply Kd.R_drew)); exact HO124.out⟩, ⟨by repeat (first | (with_reducible first | exact HB.out | apply below_alloc | apply pw_below_drewN | apply below_drew1) | exact HB.out)⟩⟩
                                              · rw [if_neg c75] at H
                                                exact absurd H (by simp)
                                            · rw [if_neg c74] at H
                                              exact absurd H (by simp)
                                          · rw [if_neg c73] at H
                                            have c73b0 : ((bt (rdOf ByteArray.empty l0 (ji65)) 0) == 10) = false := beq_eq_false_iff_ne.mpr c73
                                            have c73b1 : ((bt (rdOf ByteArray.empty l0 (ji65)) 0) != 10) = true := bne_iff_ne.mpr c73
                                            by_cases c78 : (bt (rdOf ByteArray.empty l0 (ji65)) 0) = 13
                                            · rw [if_pos c78] at H
                                              have c78b0 : ((bt (rdOf ByteArray.empty l0 (ji65)) 0) == 13) = true := beq_iff_eq.mpr c78
                                              have c78b1 : ((bt (rdOf ByteArray.empty l0 (ji65)) 0) != 13) = false := bne_eq_false_iff_eq.mpr c78
                                              clear c78
                                              by_cases c79 : x7_1.size + x9_3.size ≤ 9223372036854775807
                                              · rw [if_pos c79] at H
                                                have c79b0 := eq_true c79
                                                have c79b1 : decide (x7_1.size + x9_3.size ≤ 9223372036854775807) = true := decide_eq_true c79
                                                try have c79b2 : (9223372036854775807 < x7_1.size + x9_3.size) = False := eq_false (Nat.not_lt.2 c79)
                                                by_cases c80 : (x7_1 ++ x9_3).size + 1 ≤ 9223372036854775807
                                                · rw [if_pos c80] at H
                                                  have c80b0 := eq_true c80
                                                  have c80b1 : decide ((x7_1 ++ x9_3).size + 1 ≤ 9223372036854775807) = true := decide_eq_true c80
                                                  have c80s : x7_1.size + x9_3.size + 1 ≤ 9223372036854775807 := by rw [← ByteArray.size_append]; exact c80
                                                  have c80s0 := eq_true c80s
                                                  have c80s1 : decide (x7_1.size + x9_3.size + 1 ≤ 9223372036854775807) = true := decide_eq_true c80s
                                                  have c80s2 : (9223372036854775807 < x7_1.size + x9_3.size + 1) = False := eq_false (Nat.not_lt.2 c80s)
                                                  try have c80b2 : (9223372036854775807 < (x7_1 ++ x9_3).size + 1) = False := eq_false (Nat.not_lt.2 c80)
                                                  have H' := Aside0.mk H
                                                  clear H
                                                  go_wp2_with (first | ((with_reducible refine gate_builtin (b := .append) (xs := #[.tmp 70, .tmp 72]) rfl ?_); (try (refine gate_guard (by rfl) ?_; dsimp only)); at_builtin; refine Kd.R_append Kd.string (w0 := w) w.heap.size rfl (.tmp 70) (.tmp 72) 23 9 (.string ⟨#[]⟩) 16 rfl Tryd.underlying23 info9 rfl (by decide) (by omega) u6 x6_1 x9_3 [.string x9_3] (fun _ => True) (fun _ => False) rfl rfl ?aP (fun _ hk => hk.elim) ?aF ?aO ?aB ?aS ?aL ?_; (case aP => exact rfl); (case aB => exact (by repeat (first | (with_reducible first | exact HB.out | apply below_alloc | apply pw_below_drewN | apply below_drew1) | exact HB.out))); (case aF => exact (fun _ _ => trivial)); (case aO => exact (by (with_reducible repeat (first | apply Kd.R_alloc | apply Kd.R_drewN | apply Kd.R_drew)); exact HO_6.out)); (case aS => exact (below_size (by repeat (first | (with_reducible first | exact HB.out | apply below_alloc | apply pw_below_drewN | apply below_drew1) | exact HB.out)))); (case aL => have := LMc26.out; omega); intro v123 w81 ho hb hg hat; rw [← Ny122.out] at ho; have n0_ := Aside0.mk (hb); have n1_ := Aside0.mk (ho); clear HB; clear HO_6; have HB := n0_; have HO124 := n1_; clear n0_ n1_; clear ho hb hg hat; have p125 : 0 ≤ (x8_1 : Int) := of_decide_eq_true (by first | (with_reducible assumption) | assumption); have q125 : x8_1 < (l1.length : Int) := of_decide_eq_true (by first | (with_reducible assumption) | assumption); obtain ⟨ad125, e125, hx125_0⟩ := Kd.at_int HR1.out x8_1 p125 q125; cases e125; replace hx125_0 := (HB.out.cell (World.block_lt_of_cell? w _ hx125_0)).trans hx125_0; replace p125 := eq_true p125; replace q125 := eq_true q125; have p130 : 0 ≤ (x8_1 : Int) := of_decide_eq_true (by first | (with_reducible assumption) | assumption); have q130 : x8_1 < (l1.length : Int) := of_decide_eq_true (by first | (with_reducible assumption) | assumption); obtain ⟨ad130, e130, hx130_0⟩ := Kd.at_int HR1.out x8_1 p130 q130; obtain rfl : ad125 = ad130 := (by injection e130); replace hx130_0 := (HB.out.cell (World.block_lt_of_cell? w _ hx130_0)).trans hx130_0; replace p130 := eq_true p130; replace q130 := eq_true q130; have p131 : 0 ≤ ((ji65) : Int) := of_decide_eq_true (by first | (with_reducible assumption) | assumption); have q131 : (ji65) < (l0.length : Int) := of_decide_eq_true (by first | (with_reducible assumption) | assumption); obtain ⟨ad131, e131, hx131_0⟩ := Kd.at_string HR0.out (ji65) p131 q131; cases e131; replace hx131_0 := (HB.out.cell (World.block_lt_of_cell? w _ hx131_0)).trans hx131_0; replace p131 := eq_true p131; replace q131 := eq_true q131; have p132 : 0 ≤ ((ji65) : Int) := of_decide_eq_true (by first | (with_reducible assumption) | assumption); have q132 : (ji65) < (l0.length : Int) := of_decide_eq_true (by first | (with_reducible assumption) | assumption); obtain ⟨ad132, e132, hx132_0⟩ := Kd.at_string HR0.out (ji65) p132 q132; obtain rfl : ad131 = ad132 := (by injection e132); replace hx132_0 := (HB.out.cell (World.block_lt_of_cell? w _ hx132_0)).trans hx132_0; replace p132 := eq_true p132; replace q132 := eq_true q132; have p72 : 0 ≤ (0 : Int) := (by omega); have q72 : 0 < (rdOf ByteArray.empty l0 (ji65)).size := (by have : (0 : Int) < ((rdOf ByteArray.empty l0 (ji65)).size : Int) := of_decide_eq_true (by first | (with_reducible assumption) | assumption); omega); have hx72 : ∀ h : 0 < (rdOf ByteArray.empty l0 (ji65)).size, (((rdOf ByteArray.empty l0 (ji65))[0]'h).toNat : Int) = bt (rdOf ByteArray.empty l0 (ji65)) 0 := bt_at (rdOf ByteArray.empty l0 (ji65)) 0; clear p72; have qi72 : (0 < ((rdOf ByteArray.empty l0 (ji65)).size : Int)) = True := eq_true (of_decide_eq_true (by first | (with_reducible assumption) | assumption)); replace q72 := eq_true q72; have p133 : 0 ≤ ((ji65) : Int) := of_decide_eq_true (by first | (with_reducible assumption) | assumption); have q133 : (ji65) < (l0.length : Int) := of_decide_eq_true (by first | (with_reducible assumption) | assumption); obtain ⟨ad133, e133, hx133_0⟩ := Kd.at_string HR0.out (ji65) p133 q133; obtain rfl : ad131 = ad133 := (by injection e133); replace hx133_0 := (HB.out.cell (World.block_lt_of_cell? w _ hx133_0)).trans hx133_0; replace p133 := eq_true p133; replace q133 := eq_true q133; have p77 : 0 ≤ (0 : Int) := (by omega); have q77 : 0 < (rdOf ByteArray.empty l0 (ji65)).size := (by have : (0 : Int) < ((rdOf ByteArray.empty l0 (ji65)).size : Int) := of_decide_eq_true (by first | (with_reducible assumption) | assumption); omega); have hx77 : ∀ h : 0 < (rdOf ByteArray.empty l0 (ji65)).size, (((rdOf ByteArray.empty l0 (ji65))[0]'h).toNat : Int) = bt (rdOf ByteArray.empty l0 (ji65)) 0 := bt_at (rdOf ByteArray.empty l0 (ji65)) 0; clear p77; have qi77 : (0 < ((rdOf ByteArray.empty l0 (ji65)).size : Int)) = True := eq_true (of_decide_eq_true (by first | (with_reducible assumption) | assumption)); replace q77 := eq_true q77))
                                                  repeat (go_quiet (first | ((with_reducible refine gate_builtin (b := .append) (xs := #[.tmp 70, .tmp 72]) rfl ?_); (try (refine gate_guard (by rfl) ?_; dsimp only)); at_builtin; refine Kd.R_append Kd.string (w0 := w) w.heap.size rfl (.tmp 70) (.tmp 72) 23 9 (.string ⟨#[]⟩) 16 rfl Tryd.underlying23 info9 rfl (by decide) (by omega) u6 x6_1 x9_3 [.string x9_3] (fun _ => True) (fun _ => False) rfl rfl ?aP (fun _ hk => hk.elim) ?aF ?aO ?aB ?aS ?aL ?_; (case aP => exact rfl); (case aB => exact (by repeat (first | (with_reducible first | exact HB.out | apply below_alloc | apply pw_below_drewN | apply below_drew1) | exact HB.out))); (case aF => exact (fun _ _ => trivial)); (case aO => exact (by (with_reducible repeat (first | apply Kd.R_alloc | apply Kd.R_drewN | apply Kd.R_drew)); exact HO_6.out)); (case aS => exact (below_size (by repeat (first | (with_reducible first | exact HB.out | apply below_alloc | apply pw_below_drewN | apply below_drew1) | exact HB.out)))); (case aL => have := LMc26.out; omega); intro v123 w81 ho hb hg hat; rw [← Ny122.out] at ho; have n0_ := Aside0.mk (hb); have n1_ := Aside0.mk (ho); clear HB; clear HO_6; have HB := n0_; have HO124 := n1_; clear n0_ n1_; clear ho hb hg hat; have p125 : 0 ≤ (x8_1 : Int) := of_decide_eq_true (by first | (with_reducible assumption) | assumption); have q125 : x8_1 < (l1.length : Int) := of_decide_eq_true (by first | (with_reducible assumption) | assumption); obtain ⟨ad125, e125, hx125_0⟩ := Kd.at_int HR1.out x8_1 p125 q125; cases e125; replace hx125_0 := (HB.out.cell (World.block_lt_of_cell? w _ hx125_0)).trans hx125_0; replace p125 := eq_true p125; replace q125 := eq_true q125; have p130 : 0 ≤ (x8_1 : Int) := of_decide_eq_true (by first | (with_reducible assumption) | assumption); have q130 : x8_1 < (l1.length : Int) := of_decide_eq_true (by first | (with_reducible assumption) | assumption); obtain ⟨ad130, e130, hx130_0⟩ := Kd.at_int HR1.out x8_1 p130 q130; obtain rfl : ad125 = ad130 := (by injection e130); replace hx130_0 := (HB.out.cell (World.block_lt_of_cell? w _ hx130_0)).trans hx130_0; replace p130 := eq_true p130; replace q130 := eq_true q130; have p131 : 0 ≤ ((ji65) : Int) := of_decide_eq_true (by first | (with_reducible assumption) | assumption); have q131 : (ji65) < (l0.length : Int) := of_decide_eq_true (by first | (with_reducible assumption) | assumption); obtain ⟨ad131, e131, hx131_0⟩ := Kd.at_string HR0.out (ji65) p131 q131; cases e131; replace hx131_0 := (HB.out.cell (World.block_lt_of_cell? w _ hx131_0)).trans hx131_0; replace p131 := eq_true p131; replace q131 := eq_true q131; have p132 : 0 ≤ ((ji65) : Int) := of_decide_eq_true (by first | (with_reducible assumption) | assumption); have q132 : (ji65) < (l0.length : Int) := of_decide_eq_true (by first | (with_reducible assumption) | assumption); obtain ⟨ad132, e132, hx132_0⟩ := Kd.at_string HR0.out (ji65) p132 q132; obtain rfl : ad131 = ad132 := (by injection e132); replace hx132_0 := (HB.out.cell (World.block_lt_of_cell? w _ hx132_0)).trans hx132_0; replace p132 := eq_true p132; replace q132 := eq_true q132; have p72 : 0 ≤ (0 : Int) := (by omega); have q72 : 0 < (rdOf ByteArray.empty l0 (ji65)).size := (by have : (0 : Int) < ((rdOf ByteArray.empty l0 (ji65)).size : Int) := of_decide_eq_true (by first | (with_reducible assumption) | assumption); omega); have hx72 : ∀ h : 0 < (rdOf ByteArray.empty l0 (ji65)).size, (((rdOf ByteArray.empty l0 (ji65))[0]'h).toNat : Int) = bt (rdOf ByteArray.empty l0 (ji65)) 0 := bt_at (rdOf ByteArray.empty l0 (ji65)) 0; clear p72; have qi72 : (0 < ((rdOf ByteArray.empty l0 (ji65)).size : Int)) = True := eq_true (of_decide_eq_true (by first | (with_reducible assumption) | assumption)); replace q72 := eq_true q72; have p133 : 0 ≤ ((ji65) : Int) := of_decide_eq_true (by first | (with_reducible assumption) | assumption); have q133 : (ji65) < (l0.length : Int) := of_decide_eq_true (by first | (with_reducible assumption) | assumption); obtain ⟨ad133, e133, hx133_0⟩ := Kd.at_string HR0.out (ji65) p133 q133; obtain rfl : ad131 = ad133 := (by injection e133); replace hx133_0 := (HB.out.cell (World.block_lt_of_cell? w _ hx133_0)).trans hx133_0; replace p133 := eq_true p133; replace q133 := eq_true q133; have p77 : 0 ≤ (0 : Int) := (by omega); have q77 : 0 < (rdOf ByteArray.empty l0 (ji65)).size := (by have : (0 : Int) < ((rdOf ByteArray.empty l0 (ji65)).size : Int) := of_decide_eq_true (by first | (with_reducible assumption) | assumption); omega); have hx77 : ∀ h : 0 < (rdOf ByteArray.empty l0 (ji65)).size, (((rdOf ByteArray.empty l0 (ji65))[0]'h).toNat : Int) = bt (rdOf ByteArray.empty l0 (ji65)) 0 := bt_at (rdOf ByteArray.empty l0 (ji65)) 0; clear p77; have qi77 : (0 < ((rdOf ByteArray.empty l0 (ji65)).size : Int)) = True := eq_true (of_decide_eq_true (by first | (with_reducible assumption) | assumption)); replace q77 := eq_true q77)); try go_wp2_with (first | ((with_reducible refine gate_builtin (b := .append) (xs := #[.tmp 70, .tmp 72]) rfl ?_); (try (refine gate_guard (by rfl) ?_; dsimp only)); at_builtin; refine Kd.R_append Kd.string (w0 := w) w.heap.size rfl (.tmp 70) (.tmp 72) 23 9 (.string ⟨#[]⟩) 16 rfl Tryd.underlying23 info9 rfl (by decide) (by omega) u6 x6_1 x9_3 [.string x9_3] (fun _ => True) (fun _ => False) rfl rfl ?aP (fun _ hk => hk.elim) ?aF ?aO ?aB ?aS ?aL ?_; (case aP => exact rfl); (case aB => exact (by repeat (first | (with_reducible first | exact HB.out | apply below_alloc | apply pw_below_drewN | apply below_drew1) | exact HB.out))); (case aF => exact (fun _ _ => trivial)); (case aO => exact (by (with_reducible repeat (first | apply Kd.R_alloc | apply Kd.R_drewN | apply Kd.R_drew)); exact HO_6.out)); (case aS => exact (below_size (by repeat (first | (with_reducible first | exact HB.out | apply below_alloc | apply pw_below_drewN | apply below_drew1) | exact HB.out)))); (case aL => have := LMc26.out; omega); intro v123 w81 ho hb hg hat; rw [← Ny122.out] at ho; have n0_ := Aside0.mk (hb); have n1_ := Aside0.mk (ho); clear HB; clear HO_6; have HB := n0_; have HO124 := n1_; clear n0_ n1_; clear ho hb hg hat; have p125 : 0 ≤ (x8_1 : Int) := of_decide_eq_true (by first | (with_reducible assumption) | assumption); have q125 : x8_1 < (l1.length : Int) := of_decide_eq_true (by first | (with_reducible assumption) | assumption); obtain ⟨ad125, e125, hx125_0⟩ := Kd.at_int HR1.out x8_1 p125 q125; cases e125; replace hx125_0 := (HB.out.cell (World.block_lt_of_cell? w _ hx125_0)).trans hx125_0; replace p125 := eq_true p125; replace q125 := eq_true q125; have p130 : 0 ≤ (x8_1 : Int) := of_decide_eq_true (by first | (with_reducible assumption) | assumption); have q130 : x8_1 < (l1.length : Int) := of_decide_eq_true (by first | (with_reducible assumption) | assumption); obtain ⟨ad130, e130, hx130_0⟩ := Kd.at_int HR1.out x8_1 p130 q130; obtain rfl : ad125 = ad130 := (by injection e130); replace hx130_0 := (HB.out.cell (World.block_lt_of_cell? w _ hx130_0)).trans hx130_0; replace p130 := eq_true p130; replace q130 := eq_true q130; have p131 : 0 ≤ ((ji65) : Int) := of_decide_eq_true (by first | (with_reducible assumption) | assumption); have q131 : (ji65) < (l0.length : Int) := of_decide_eq_true (by first | (with_reducible assumption) | assumption); obtain ⟨ad131, e131, hx131_0⟩ := Kd.at_string HR0.out (ji65) p131 q131; cases e131; replace hx131_0 := (HB.out.cell (World.block_lt_of_cell? w _ hx131_0)).trans hx131_0; replace p131 := eq_true p131; replace q131 := eq_true q131; have p132 : 0 ≤ ((ji65) : Int) := of_decide_eq_true (by first | (with_reducible assumption) | assumption); have q132 : (ji65) < (l0.length : Int) := of_decide_eq_true (by first | (with_reducible assumption) | assumption); obtain ⟨ad132, e132, hx132_0⟩ := Kd.at_string HR0.out (ji65) p132 q132; obtain rfl : ad131 = ad132 := (by injection e132); replace hx132_0 := (HB.out.cell (World.block_lt_of_cell? w _ hx132_0)).trans hx132_0; replace p132 := eq_true p132; replace q132 := eq_true q132; have p72 : 0 ≤ (0 : Int) := (by omega); have q72 : 0 < (rdOf ByteArray.empty l0 (ji65)).size := (by have : (0 : Int) < ((rdOf ByteArray.empty l0 (ji65)).size : Int) := of_decide_eq_true (by first | (with_reducible assumption) | assumption); omega); have hx72 : ∀ h : 0 < (rdOf ByteArray.empty l0 (ji65)).size, (((rdOf ByteArray.empty l0 (ji65))[0]'h).toNat : Int) = bt (rdOf ByteArray.empty l0 (ji65)) 0 := bt_at (rdOf ByteArray.empty l0 (ji65)) 0; clear p72; have qi72 : (0 < ((rdOf ByteArray.empty l0 (ji65)).size : Int)) = True := eq_true (of_decide_eq_true (by first | (with_reducible assumption) | assumption)); replace q72 := eq_true q72; have p133 : 0 ≤ ((ji65) : Int) := of_decide_eq_true (by first | (with_reducible assumption) | assumption); have q133 : (ji65) < (l0.length : Int) := of_decide_eq_true (by first | (with_reducible assumption) | assumption); obtain ⟨ad133, e133, hx133_0⟩ := Kd.at_string HR0.out (ji65) p133 q133; obtain rfl : ad131 = ad133 := (by injection e133); replace hx133_0 := (HB.out.cell (World.block_lt_of_cell? w _ hx133_0)).trans hx133_0; replace p133 := eq_true p133; replace q133 := eq_true q133; have p77 : 0 ≤ (0 : Int) := (by omega); have q77 : 0 < (rdOf ByteArray.empty l0 (ji65)).size := (by have : (0 : Int) < ((rdOf ByteArray.empty l0 (ji65)).size : Int) := of_decide_eq_true (by first | (with_reducible assumption) | assumption); omega); have hx77 : ∀ h : 0 < (rdOf ByteArray.empty l0 (ji65)).size, (((rdOf ByteArray.empty l0 (ji65))[0]'h).toNat : Int) = bt (rdOf ByteArray.empty l0 (ji65)) 0 := bt_at (rdOf ByteArray.empty l0 (ji65)) 0; clear p77; have qi77 : (0 < ((rdOf ByteArray.empty l0 (ji65)).size : Int)) = True := eq_true (of_decide_eq_true (by first | (with_reducible assumption) | assumption)); replace q77 := eq_true q77)))
                                                  go_roundg kj8
                                                  case measure => have := HK1.out; have := HJ4.out; have := HK3.out; have := HJ8.out; omega
                                                  case rel => exact ⟨(y122), ((x7_1 ++ x9_3) ++ (⟨#[10]⟩ : ByteArray)), (ji65), (by first | rfl | (simp; done) | (simp [*]; done)), (by first | rfl | (simp; done) | (simp only [← hji65] <;> (first | rfl | simp)) | (simp [*]; done)), H', ⟨by have := HK1.out; have := HJ4.out; have := HK3.out; have := HJ8.out; omega⟩, ⟨by (with_reducible repeat (first | apply Kd.R_alloc | apply Kd.R_drewN | apply Kd.R_drew)); exact HO124.out⟩, ⟨by repeat (first | (with_reducible first | exact HB.out | apply below_alloc | apply pw_below_drewN | apply below_drew1) | exact HB.out)⟩⟩
                                                · rw [if_neg c80] at H
                                                  exact absurd H (by simp)
                                              · rw [if_neg c79] at H
                                                exact absurd H (by simp)
                                            · rw [if_neg c78] at H
                                              have c78b0 : ((bt (rdOf ByteArray.empty l0 (ji65)) 0) == 13) = false := beq_eq_false_iff_ne.mpr c78
                                              have c78b1 : ((bt (rdOf ByteArray.empty l0 (ji65)) 0) != 13) = true := bne_iff_ne.mpr c78
                                              by_cases c82 : x7_1.size + x9_3.size ≤ 9223372036854775807
                                              · rw [if_pos c82] at H
                                                have c82b0 := eq_true c82
                                                have c82b1 : decide (x7_1.size + x9_3.size ≤ 9223372036854775807) = true := decide_eq_true c82
                                                try have c82b2 : (9223372036854775807 < x7_1.size + x9_3.size) = False := eq_false (Nat.not_lt.2 c82)
                                                by_cases c83 : (x7_1 ++ x9_3).size + 1 ≤ 9223372036854775807
                                                · rw [if_pos c83] at H
                                                  have c83b0 := eq_true c83
                                                  have c83b1 : decide ((x7_1 ++ x9_3).size + 1 ≤ 9223372036854775807) = true := decide_eq_true c83
                                                  have c83s : x7_1.size + x9_3.size + 1 ≤ 9223372036854775807 := by rw [← ByteArray.size_append]; exact c83
                                                  have c83s0 := eq_true c83s
                                                  have c83s1 : decide (x7_1.size + x9_3.size + 1 ≤ 9223372036854775807) = true := decide_eq_true c83s
                                                  have c83s2 : (9223372036854775807 < x7_1.size + x9_3.size + 1) = False := eq_false (Nat.not_lt.2 c83s)
                                                  try have c83b2 : (9223372036854775807 < (x7_1 ++ x9_3).size + 1) = False := eq_false (Nat.not_lt.2 c83)
                                                  have H' := Aside0.mk H
                                                  clear H
                                                  go_wp2_with (first | ((with_reducible refine gate_builtin (b := .append) (xs := #[.tmp 70, .tmp 72]) rfl ?_); (try (refine gate_guard (by rfl) ?_; dsimp only)); at_builtin; refine Kd.R_append Kd.string (w0 := w) w.heap.size rfl (.tmp 70) (.tmp 72) 23 9 (.string ⟨#[]⟩) 16 rfl Tryd.underlying23 info9 rfl (by decide) (by omega) u6 x6_1 x9_3 [.string x9_3] (fun _ => True) (fun _ => False) rfl rfl ?aP (fun _ hk => hk.elim) ?aF ?aO ?aB ?aS ?aL ?_; (case aP => exact rfl); (case aB => exact (by repeat (first | (with_reducible first | exact HB.out | apply below_alloc | apply pw_below_drewN | apply below_drew1) | exact HB.out))); (case aF => exact (fun _ _ => trivial)); (case aO => exact (by (with_reducible repeat (first | apply Kd.R_alloc | apply Kd.R_drewN | apply Kd.R_drew)); exact HO_6.out)); (case aS => exact (below_size (by repeat (first | (with_reducible first | exact HB.out | apply below_alloc | apply pw_below_drewN | apply below_drew1) | exact HB.out)))); (case aL => have := LMc26.out; omega); intro v123 w84 ho hb hg hat; rw [← Ny122.out] at ho; have n0_ := Aside0.mk (hb); have n1_ := Aside0.mk (ho); clear HB; clear HO_6; have HB := n0_; have HO124 := n1_; clear n0_ n1_; clear ho hb hg hat; have p125 : 0 ≤ (x8_1 : Int) := of_decide_eq_true (by first | (with_reducible assumption) | assumption); have q125 : x8_1 < (l1.length : Int) := of_decide_eq_true (by first | (with_reducible assumption) | assumption); obtain ⟨ad125, e125, hx125_0⟩ := Kd.at_int HR1.out x8_1 p125 q125; cases e125; replace hx125_0 := (HB.out.cell (World.block_lt_of_cell? w _ hx125_0)).trans hx125_0; replace p125 := eq_true p125; replace q125 := eq_true q125; have p130 : 0 ≤ (x8_1 : Int) := of_decide_eq_true (by first | (with_reducible assumption) | assumption); have q130 : x8_1 < (l1.length : Int) := of_decide_eq_true (by first | (with_reducible assumption) | assumption); obtain ⟨ad130, e130, hx130_0⟩ := Kd.at_int HR1.out x8_1 p130 q130; obtain rfl : ad125 = ad130 := (by injection e130); replace hx130_0 := (HB.out.cell (World.block_lt_of_cell? w _ hx130_0)).trans hx130_0; replace p130 := eq_true p130; replace q130 := eq_true q130; have p131 : 0 ≤ ((ji65) : Int) := of_decide_eq_true (by first | (with_reducible assumption) | assumption); have q131 : (ji65) < (l0.length : Int) := of_decide_eq_true (by first | (with_reducible assumption) | assumption); obtain ⟨ad131, e131, hx131_0⟩ := Kd.at_string HR0.out (ji65) p131 q131; cases e131; replace hx131_0 := (HB.out.cell (World.block_lt_of_cell? w _ hx131_0)).trans hx131_0; replace p131 := eq_true p131; replace q131 := eq_true q131; have p132 : 0 ≤ ((ji65) : Int) := of_decide_eq_true (by first | (with_reducible assumption) | assumption); have q132 : (ji65) < (l0.length : Int) := of_decide_eq_true (by first | (with_reducible assumption) | assumption); obtain ⟨ad132, e132, hx132_0⟩ := Kd.at_string HR0.out (ji65) p132 q132; obtain rfl : ad131 = ad132 := (by injection e132); replace hx132_0 := (HB.out.cell (World.block_lt_of_cell? w _ hx132_0)).trans hx132_0; replace p132 := eq_true p132; replace q132 := eq_true q132; have p72 : 0 ≤ (0 : Int) := (by omega); have q72 : 0 < (rdOf ByteArray.empty l0 (ji65)).size := (by have : (0 : Int) < ((rdOf ByteArray.empty l0 (ji65)).size : Int) := of_decide_eq_true (by first | (with_reducible assumption) | assumption); omega); have hx72 : ∀ h : 0 < (rdOf ByteArray.empty l0 (ji65)).size, (((rdOf ByteArray.empty l0 (ji65))[0]'h).toNat : Int) = bt (rdOf ByteArray.empty l0 (ji65)) 0 := bt_at (rdOf ByteArray.empty l0 (ji65)) 0; clear p72; have qi72 : (0 < ((rdOf ByteArray.empty l0 (ji65)).size : Int)) = True := eq_true (of_decide_eq_true (by first | (with_reducible assumption) | assumption)); replace q72 := eq_true q72; have p133 : 0 ≤ ((ji65) : Int) := of_decide_eq_true (by first | (with_reducible assumption) | assumption); have q133 : (ji65) < (l0.length : Int) := of_decide_eq_true (by first | (with_reducible assumption) | assumption); obtain ⟨ad133, e133, hx133_0⟩ := Kd.at_string HR0.out (ji65) p133 q133; obtain rfl : ad131 = ad133 := (by injection e133); replace hx133_0 := (HB.out.cell (World.block_lt_of_cell? w _ hx133_0)).trans hx133_0; replace p133 := eq_true p133; replace q133 := eq_true q133; have p77 : 0 ≤ (0 : Int) := (by omega); have q77 : 0 < (rdOf ByteArray.empty l0 (ji65)).size := (by have : (0 : Int) < ((rdOf ByteArray.empty l0 (ji65)).size : Int) := of_decide_eq_true (by first | (with_reducible assumption) | assumption); omega); have hx77 : ∀ h : 0 < (rdOf ByteArray.empty l0 (ji65)).size, (((rdOf ByteArray.empty l0 (ji65))[0]'h).toNat : Int) = bt (rdOf ByteArray.empty l0 (ji65)) 0 := bt_at (rdOf ByteArray.empty l0 (ji65)) 0; clear p77; have qi77 : (0 < ((rdOf ByteArray.empty l0 (ji65)).size : Int)) = True := eq_true (of_decide_eq_true (by first | (with_reducible assumption) | assumption)); replace q77 := eq_true q77))
                                                  repeat (go_quiet (first | ((with_reducible refine gate_builtin (b := .append) (xs := #[.tmp 70, .tmp 72]) rfl ?_); (try (refine gate_guard (by rfl) ?_; dsimp only)); at_builtin; refine Kd.R_append Kd.string (w0 := w) w.heap.size rfl (.tmp 70) (.tmp 72) 23 9 (.string ⟨#[]⟩) 16 rfl Tryd.underlying23 info9 rfl (by decide) (by omega) u6 x6_1 x9_3 [.string x9_3] (fun _ => True) (fun _ => False) rfl rfl ?aP (fun _ hk => hk.elim) ?aF ?aO ?aB ?aS ?aL ?_; (case aP => exact rfl); (case aB => exact (by repeat (first | (with_reducible first | exact HB.out | apply below_alloc | apply pw_below_drewN | apply below_drew1) | exact HB.out))); (case aF => exact (fun _ _ => trivial)); (case aO => exact (by (with_reducible repeat (first | apply Kd.R_alloc | apply Kd.R_drewN | apply Kd.R_drew)); exact HO_6.out)); (case aS => exact (below_size (by repeat (first | (with_reducible first | exact HB.out | apply below_alloc | apply pw_below_drewN | apply below_drew1) | exact HB.out)))); (case aL => have := LMc26.out; omega); intro v123 w84 ho hb hg hat; rw [← Ny122.out] at ho; have n0_ := Aside0.mk (hb); have n1_ := Aside0.mk (ho); clear HB; clear HO_6; have HB := n0_; have HO124 := n1_; clear n0_ n1_; clear ho hb hg hat; have p125 : 0 ≤ (x8_1 : Int) := of_decide_eq_true (by first | (with_reducible assumption) | assumption); have q125 : x8_1 < (l1.length : Int) := of_decide_eq_true (by first | (with_reducible assumption) | assumption); obtain ⟨ad125, e125, hx125_0⟩ := Kd.at_int HR1.out x8_1 p125 q125; cases e125; replace hx125_0 := (HB.out.cell (World.block_lt_of_cell? w _ hx125_0)).trans hx125_0; replace p125 := eq_true p125; replace q125 := eq_true q125; have p130 : 0 ≤ (x8_1 : Int) := of_decide_eq_true (by first | (with_reducible assumption) | assumption); have q130 : x8_1 < (l1.length : Int) := of_decide_eq_true (by first | (with_reducible assumption) | assumption); obtain ⟨ad130, e130, hx130_0⟩ := Kd.at_int HR1.out x8_1 p130 q130; obtain rfl : ad125 = ad130 := (by injection e130); replace hx130_0 := (HB.out.cell (World.block_lt_of_cell? w _ hx130_0)).trans hx130_0; replace p130 := eq_true p130; replace q130 := eq_true q130; have p131 : 0 ≤ ((ji65) : Int) := of_decide_eq_true (by first | (with_reducible assumption) | assumption); have q131 : (ji65) < (l0.length : Int) := of_decide_eq_true (by first | (with_reducible assumption) | assumption); obtain ⟨ad131, e131, hx131_0⟩ := Kd.at_string HR0.out (ji65) p131 q131; cases e131; replace hx131_0 := (HB.out.cell (World.block_lt_of_cell? w _ hx131_0)).trans hx131_0; replace p131 := eq_true p131; replace q131 := eq_true q131; have p132 : 0 ≤ ((ji65) : Int) := of_decide_eq_true (by first | (with_reducible assumption) | assumption); have q132 : (ji65) < (l0.length : Int) := of_decide_eq_true (by first | (with_reducible assumption) | assumption); obtain ⟨ad132, e132, hx132_0⟩ := Kd.at_string HR0.out (ji65) p132 q132; obtain rfl : ad131 = ad132 := (by injection e132); replace hx132_0 := (HB.out.cell (World.block_lt_of_cell? w _ hx132_0)).trans hx132_0; replace p132 := eq_true p132; replace q132 := eq_true q132; have p72 : 0 ≤ (0 : Int) := (by omega); have q72 : 0 < (rdOf ByteArray.empty l0 (ji65)).size := (by have : (0 : Int) < ((rdOf ByteArray.empty l0 (ji65)).size : Int) := of_decide_eq_true (by first | (with_reducible assumption) | assumption); omega); have hx72 : ∀ h : 0 < (rdOf ByteArray.empty l0 (ji65)).size, (((rdOf ByteArray.empty l0 (ji65))[0]'h).toNat : Int) = bt (rdOf ByteArray.empty l0 (ji65)) 0 := bt_at (rdOf ByteArray.empty l0 (ji65)) 0; clear p72; have qi72 : (0 < ((rdOf ByteArray.empty l0 (ji65)).size : Int)) = True := eq_true (of_decide_eq_true (by first | (with_reducible assumption) | assumption)); replace q72 := eq_true q72; have p133 : 0 ≤ ((ji65) : Int) := of_decide_eq_true (by first | (with_reducible assumption) | assumption); have q133 : (ji65) < (l0.length : Int) := of_decide_eq_true (by first | (with_reducible assumption) | assumption); obtain ⟨ad133, e133, hx133_0⟩ := Kd.at_string HR0.out (ji65) p133 q133; obtain rfl : ad131 = ad133 := (by injection e133); replace hx133_0 := (HB.out.cell (World.block_lt_of_cell? w _ hx133_0)).trans hx133_0; replace p133 := eq_true p133; replace q133 := eq_true q133; have p77 : 0 ≤ (0 : Int) := (by omega); have q77 : 0 < (rdOf ByteArray.empty l0 (ji65)).size := (by have : (0 : Int) < ((rdOf ByteArray.empty l0 (ji65)).size : Int) := of_decide_eq_true (by first | (with_reducible assumption) | assumption); omega); have hx77 : ∀ h : 0 < (rdOf ByteArray.empty l0 (ji65)).size, (((rdOf ByteArray.empty l0 (ji65))[0]'h).toNat : Int) = bt (rdOf ByteArray.empty l0 (ji65)) 0 := bt_at (rdOf ByteArray.empty l0 (ji65)) 0; clear p77; have qi77 : (0 < ((rdOf ByteArray.empty l0 (ji65)).size : Int)) = True := eq_true (of_decide_eq_true (by first | (with_reducible assumption) | assumption)); replace q77 := eq_true q77)); try go_wp2_with (first | ((with_reducible refine gate_builtin (b := .append) (xs := #[.tmp 70, .tmp 72]) rfl ?_); (try (refine gate_guard (by rfl) ?_; dsimp only)); at_builtin; refine Kd.R_append Kd.string (w0 := w) w.heap.size rfl (.tmp 70) (.tmp 72) 23 9 (.string ⟨#[]⟩) 16 rfl Tryd.underlying23 info9 rfl (by decide) (by omega) u6 x6_1 x9_3 [.string x9_3] (fun _ => True) (fun _ => False) rfl rfl ?aP (fun _ hk => hk.elim) ?aF ?aO ?aB ?aS ?aL ?_; (case aP => exact rfl); (case aB => exact (by repeat (first | (with_reducible first | exact HB.out | apply below_alloc | apply pw_below_drewN | apply below_drew1) | exact HB.out))); (case aF => exact (fun _ _ => trivial)); (case aO => exact (by (with_reducible repeat (first | apply Kd.R_alloc | apply Kd.R_drewN | apply Kd.R_drew)); exact HO_6.out)); (case aS => exact (below_size (by repeat (first | (with_reducible first | exact HB.out | apply below_alloc | apply pw_below_drewN | apply below_drew1) | exact HB.out)))); (case aL => have := LMc26.out; omega); intro v123 w84 ho hb hg hat; rw [← Ny122.out] at ho; have n0_ := Aside0.mk (hb); have n1_ := Aside0.mk (ho); clear HB; clear HO_6; have HB := n0_; have HO124 := n1_; clear n0_ n1_; clear ho hb hg hat; have p125 : 0 ≤ (x8_1 : Int) := of_decide_eq_true (by first | (with_reducible assumption) | assumption); have q125 : x8_1 < (l1.length : Int) := of_decide_eq_true (by first | (with_reducible assumption) | assumption); obtain ⟨ad125, e125, hx125_0⟩ := Kd.at_int HR1.out x8_1 p125 q125; cases e125; replace hx125_0 := (HB.out.cell (World.block_lt_of_cell? w _ hx125_0)).trans hx125_0; replace p125 := eq_true p125; replace q125 := eq_true q125; have p130 : 0 ≤ (x8_1 : Int) := of_decide_eq_true (by first | (with_reducible assumption) | assumption); have q130 : x8_1 < (l1.length : Int) := of_decide_eq_true (by first | (with_reducible assumption) | assumption); obtain ⟨ad130, e130, hx130_0⟩ := Kd.at_int HR1.out x8_1 p130 q130; obtain rfl : ad125 = ad130 := (by injection e130); replace hx130_0 := (HB.out.cell (World.block_lt_of_cell? w _ hx130_0)).trans hx130_0; replace p130 := eq_true p130; replace q130 := eq_true q130; have p131 : 0 ≤ ((ji65) : Int) := of_decide_eq_true (by first | (with_reducible assumption) | assumption); have q131 : (ji65) < (l0.length : Int) := of_decide_eq_true (by first | (with_reducible assumption) | assumption); obtain ⟨ad131, e131, hx131_0⟩ := Kd.at_string HR0.out (ji65) p131 q131; cases e131; replace hx131_0 := (HB.out.cell (World.block_lt_of_cell? w _ hx131_0)).trans hx131_0; replace p131 := eq_true p131; replace q131 := eq_true q131; have p132 : 0 ≤ ((ji65) : Int) := of_decide_eq_true (by first | (with_reducible assumption) | assumption); have q132 : (ji65) < (l0.length : Int) := of_decide_eq_true (by first | (with_reducible assumption) | assumption); obtain ⟨ad132, e132, hx132_0⟩ := Kd.at_string HR0.out (ji65) p132 q132; obtain rfl : ad131 = ad132 := (by injection e132); replace hx132_0 := (HB.out.cell (World.block_lt_of_cell? w _ hx132_0)).trans hx132_0; replace p132 := eq_true p132; replace q132 := eq_true q132; have p72 : 0 ≤ (0 : Int) := (by omega); have q72 : 0 < (rdOf ByteArray.empty l0 (ji65)).size := (by have : (0 : Int) < ((rdOf ByteArray.empty l0 (ji65)).size : Int) := of_decide_eq_true (by first | (with_reducible assumption) | assumption); omega); have hx72 : ∀ h : 0 < (rdOf ByteArray.empty l0 (ji65)).size, (((rdOf ByteArray.empty l0 (ji65))[0]'h).toNat : Int) = bt (rdOf ByteArray.empty l0 (ji65)) 0 := bt_at (rdOf ByteArray.empty l0 (ji65)) 0; clear p72; have qi72 : (0 < ((rdOf ByteArray.empty l0 (ji65)).size : Int)) = True := eq_true (of_decide_eq_true (by first | (with_reducible assumption) | assumption)); replace q72 := eq_true q72; have p133 : 0 ≤ ((ji65) : Int) := of_decide_eq_true (by first | (with_reducible assumption) | assumption); have q133 : (ji65) < (l0.length : Int) := of_decide_eq_true (by first | (with_reducible assumption) | assumption); obtain ⟨ad133, e133, hx133_0⟩ := Kd.at_string HR0.out (ji65) p133 q133; obtain rfl : ad131 = ad133 := (by injection e133); replace hx133_0 := (HB.out.cell (World.block_lt_of_cell? w _ hx133_0)).trans hx133_0; replace p133 := eq_true p133; replace q133 := eq_true q133; have p77 : 0 ≤ (0 : Int) := (by omega); have q77 : 0 < (rdOf ByteArray.empty l0 (ji65)).size := (by have : (0 : Int) < ((rdOf ByteArray.empty l0 (ji65)).size : Int) := of_decide_eq_true (by first | (with_reducible assumption) | assumption); omega); have hx77 : ∀ h : 0 < (rdOf ByteArray.empty l0 (ji65)).size, (((rdOf ByteArray.empty l0 (ji65))[0]'h).toNat : Int) = bt (rdOf ByteArray.empty l0 (ji65)) 0 := bt_at (rdOf ByteArray.empty l0 (ji65)) 0; clear p77; have qi77 : (0 < ((rdOf ByteArray.empty l0 (ji65)).size : Int)) = True := eq_true (of_decide_eq_true (by first | (with_reducible assumption) | assumption)); replace q77 := eq_true q77)))
                                                  go_roundg kj8
                                                  case measure => have := HK1.out; have := HJ4.out; have := HK3.out; have := HJ8.out; omega
                                                  case rel => exact ⟨(y122), ((x7_1 ++ x9_3) ++ (⟨#[13]⟩ : ByteArray)), (ji65), (by first | rfl | (simp; done) | (simp [*]; done)), (by first | rfl | (simp; done) | (simp only [← hji65] <;> (first | rfl | simp)) | (simp [*]; done)), H', ⟨by have := HK1.out; have := HJ4.out; have := HK3.out; have := HJ8.out; omega⟩, ⟨by (with_reducible repeat (first | apply Kd.R_alloc | apply Kd.R_drewN | apply Kd.R_drew)); exact HO124.out⟩, ⟨by repeat (first | (with_reducible first | exact HB.out | apply below_alloc | apply pw_below_drewN | apply below_drew1) | exact HB.out)⟩⟩
                                                · rw [if_neg c83] at H
                                                  exact absurd H (by simp)
                                              · rw [if_neg c82] at H
                                                exact absurd H (by simp)
                                        · rw [if_neg c71] at H
                                          exact absurd H (by simp)
                                    · rw [if_neg c66] at H
                                      exact absurd H (by simp)
                                  · rw [if_neg c64] at H
                                    have c64b0 : decide ((wrap64 (x8_1 + 1)) < (l1.length : Int)) = false := decide_eq_false c64
                                    clear c64
                                    by_cases c85 : x7_1.size + x9_3.size ≤ 9223372036854775807
                                    · rw [if_pos c85] at H
                                      have c85b0 := eq_true c85
                                      have c85b1 : decide (x7_1.size + x9_3.size ≤ 9223372036854775807) = true := decide_eq_true c85
                                      try have c85b2 : (9223372036854775807 < x7_1.size + x9_3.size) = False := eq_false (Nat.not_lt.2 c85)
                                      by_cases c86 : (x7_1 ++ x9_3).size + 1 ≤ 9223372036854775807
                                      · rw [if_pos c86] at H
                                        have c86b0 := eq_true c86
                                        have c86b1 : decide ((x7_1 ++ x9_3).size + 1 ≤ 9223372036854775807) = true := decide_eq_true c86
                                        have c86s : x7_1.size + x9_3.size + 1 ≤ 9223372036854775807 := by rw [← ByteArray.size_append]; exact c86
                                        have c86s0 := eq_true c86s
                                        have c86s1 : decide (x7_1.size + x9_3.size + 1 ≤ 9223372036854775807) = true := decide_eq_true c86s
                                        have c86s2 : (9223372036854775807 < x7_1.size + x9_3.size + 1) = False := eq_false (Nat.not_lt.2 c86s)
                                        try have c86b2 : (9223372036854775807 < (x7_1 ++ x9_3).size + 1) = False := eq_false (Nat.not_lt.2 c86)
                                        have H' := Aside0.mk H
                                        clear H
                                        go_wp2_with (first | ((with_reducible refine gate_builtin (b := .append) (xs := #[.tmp 70, .tmp 72]) rfl ?_); (try (refine gate_guard (by rfl) ?_; dsimp only)); at_builtin; refine Kd.R_append Kd.string (w0 := w) w.heap.size rfl (.tmp 70) (.tmp 72) 23 9 (.string ⟨#[]⟩) 16 rfl Tryd.underlying23 info9 rfl (by decide) (by omega) u6 x6_1 x9_3 [.string x9_3] (fun _ => True) (fun _ => False) rfl rfl ?aP (fun _ hk => hk.elim) ?aF ?aO ?aB ?aS ?aL ?_; (case aP => exact rfl); (case aB => exact (by repeat (first | (with_reducible first | exact HB.out | apply below_alloc | apply pw_below_drewN | apply below_drew1) | exact HB.out))); (case aF => exact (fun _ _ => trivial)); (case aO => exact (by (with_reducible repeat (first | apply Kd.R_alloc | apply Kd.R_drewN | apply Kd.R_drew)); exact HO_6.out)); (case aS => exact (below_size (by repeat (first | (with_reducible first | exact HB.out | apply below_alloc | apply pw_below_drewN | apply below_drew1) | exact HB.out)))); (case aL => have := LMc26.out; omega); intro v123 w87 ho hb hg hat; rw [← Ny122.out] at ho; have n0_ := Aside0.mk (hb); have n1_ := Aside0.mk (ho); clear HB; clear HO_6; have HB := n0_; have HO124 := n1_; clear n0_ n1_; clear ho hb hg hat; have p125 : 0 ≤ (x8_1 : Int) := of_decide_eq_true (by first | (with_reducible assumption) | assumption); have q125 : x8_1 < (l1.length : Int) := of_decide_eq_true (by first | (with_reducible assumption) | assumption); obtain ⟨ad125, e125, hx125_0⟩ := Kd.at_int HR1.out x8_1 p125 q125; cases e125; replace hx125_0 := (HB.out.cell (World.block_lt_of_cell? w _ hx125_0)).trans hx125_0; replace p125 := eq_true p125; replace q125 := eq_true q125; have p130 : 0 ≤ (x8_1 : Int) := of_decide_eq_true (by first | (with_reducible assumption) | assumption); have q130 : x8_1 < (l1.length : Int) := of_decide_eq_true (by first | (with_reducible assumption) | assumption); obtain ⟨ad130, e130, hx130_0⟩ := Kd.at_int HR1.out x8_1 p130 q130; obtain rfl : ad125 = ad130 := (by injection e130); replace hx130_0 := (HB.out.cell (World.block_lt_of_cell? w _ hx130_0)).trans hx130_0; replace p130 := eq_true p130; replace q130 := eq_true q130))
                                        repeat (go_quiet (first | ((with_reducible refine gate_builtin (b := .append) (xs := #[.tmp 70, .tmp 72]) rfl ?_); (try (refine gate_guard (by rfl) ?_; dsimp only)); at_builtin; refine Kd.R_append Kd.string (w0 := w) w.heap.size rfl (.tmp 70) (.tmp 72) 23 9 (.string ⟨#[]⟩) 16 rfl Tryd.underlying23 info9 rfl (by decide) (by omega) u6 x6_1 x9_3 [.string x9_3] (fun _ => True) (fun _ => False) rfl rfl ?aP (fun _ hk => hk.elim) ?aF ?aO ?aB ?aS ?aL ?_; (case aP => exact rfl); (case aB => exact (by repeat (first | (with_reducible first | exact HB.out | apply below_alloc | apply pw_below_drewN | apply below_drew1) | exact HB.out))); (case aF => exact (fun _ _ => trivial)); (case aO => exact (by (with_reducible repeat (first | apply Kd.R_alloc | apply Kd.R_drewN | apply Kd.R_drew)); exact HO_6.out)); (case aS => exact (below_size (by repeat (first | (with_reducible first | exact HB.out | apply below_alloc | apply pw_below_drewN | apply below_drew1) | exact HB.out)))); (case aL => have := LMc26.out; omega); intro v123 w87 ho hb hg hat; rw [← Ny122.out] at ho; have n0_ := Aside0.mk (hb); have n1_ := Aside0.mk (ho); clear HB; clear HO_6; have HB := n0_; have HO124 := n1_; clear n0_ n1_; clear ho hb hg hat; have p125 : 0 ≤ (x8_1 : Int) := of_decide_eq_true (by first | (with_reducible assumption) | assumption); have q125 : x8_1 < (l1.length : Int) := of_decide_eq_true (by first | (with_reducible assumption) | assumption); obtain ⟨ad125, e125, hx125_0⟩ := Kd.at_int HR1.out x8_1 p125 q125; cases e125; replace hx125_0 := (HB.out.cell (World.block_lt_of_cell? w _ hx125_0)).trans hx125_0; replace p125 := eq_true p125; replace q125 := eq_true q125; have p130 : 0 ≤ (x8_1 : Int) := of_decide_eq_true (by first | (with_reducible assumption) | assumption); have q130 : x8_1 < (l1.length : Int) := of_decide_eq_true (by first | (with_reducible assumption) | assumption); obtain ⟨ad130, e130, hx130_0⟩ := Kd.at_int HR1.out x8_1 p130 q130; obtain rfl : ad125 = ad130 := (by injection e130); replace hx130_0 := (HB.out.cell (World.block_lt_of_cell? w _ hx130_0)).trans hx130_0; replace p130 := eq_true p130; replace q130 := eq_true q130)); try go_wp2_with (first | ((with_reducible refine gate_builtin (b := .append) (xs := #[.tmp 70, .tmp 72]) rfl ?_); (try (refine gate_guard (by rfl) ?_; dsimp only)); at_builtin; refine Kd.R_append Kd.string (w0 := w) w.heap.size rfl (.tmp 70) (.tmp 72) 23 9 (.string ⟨#[]⟩) 16 rfl Tryd.underlying23 info9 rfl (by decide) (by omega) u6 x6_1 x9_3 [.string x9_3] (fun _ => True) (fun _ => False) rfl rfl ?aP (fun _ hk => hk.elim) ?aF ?aO ?aB ?aS ?aL ?_; (case aP => exact rfl); (case aB => exact (by repeat (first | (with_reducible first | exact HB.out | apply below_alloc | apply pw_below_drewN | apply below_drew1) | exact HB.out))); (case aF => exact (fun _ _ => trivial)); (case aO => exact (by (with_reducible repeat (first | apply Kd.R_alloc | apply Kd.R_drewN | apply Kd.R_drew)); exact HO_6.out)); (case aS => exact (below_size (by repeat (first | (with_reducible first | exact HB.out | apply below_alloc | apply pw_below_drewN | apply below_drew1) | exact HB.out)))); (case aL => have := LMc26.out; omega); intro v123 w87 ho hb hg hat; rw [← Ny122.out] at ho; have n0_ := Aside0.mk (hb); have n1_ := Aside0.mk (ho); clear HB; clear HO_6; have HB := n0_; have HO124 := n1_; clear n0_ n1_; clear ho hb hg hat; have p125 : 0 ≤ (x8_1 : Int) := of_decide_eq_true (by first | (with_reducible assumption) | assumption); have q125 : x8_1 < (l1.length : Int) := of_decide_eq_true (by first | (with_reducible assumption) | assumption); obtain ⟨ad125, e125, hx125_0⟩ := Kd.at_int HR1.out x8_1 p125 q125; cases e125; replace hx125_0 := (HB.out.cell (World.block_lt_of_cell? w _ hx125_0)).trans hx125_0; replace p125 := eq_true p125; replace q125 := eq_true q125; have p130 : 0 ≤ (x8_1 : Int) := of_decide_eq_true (by first | (with_reducible assumption) | assumption); have q130 : x8_1 < (l1.length : Int) := of_decide_eq_true (by first | (with_reducible assumption) | assumption); obtain ⟨ad130, e130, hx130_0⟩ := Kd.at_int HR1.out x8_1 p130 q130; obtain rfl : ad125 = ad130 := (by injection e130); replace hx130_0 := (HB.out.cell (World.block_lt_of_cell? w _ hx130_0)).trans hx130_0; replace p130 := eq_true p130; replace q130 := eq_true q130)))
                                        go_roundg kj8
                                        case measure => have := HK1.out; have := HJ4.out; have := HK3.out; have := HJ8.out; omega
                                        case rel => exact ⟨(y122), ((x7_1 ++ x9_3) ++ (⟨#[10]⟩ : ByteArray)), (wrap64 (x8_1 + 1)), (by first | rfl | (simp; done) | (simp [*]; done)), (by first | rfl | (simp; done) | (simp [*]; done)), H', ⟨by have := HK1.out; have := HJ4.out; have := HK3.out; have := HJ8.out; omega⟩, ⟨by (with_reducible repeat (first | apply Kd.R_alloc | apply Kd.R_drewN | apply Kd.R_drew)); exact HO124.out⟩, ⟨by repeat (first | (with_reducible first | exact HB.out | apply below_alloc | apply pw_below_drewN | apply below_drew1) | exact HB.out)⟩⟩
                                      · rw [if_neg c86] at H
                                        exact absurd H (by simp)
                                    · rw [if_neg c85] at H
                                      exact absurd H (by simp)
                                · rw [if_neg c63] at H
                                  have c63b0 : decide ((wrap64 (x8_1 + 1)) < (l0.length : Int)) = false := decide_eq_false c63
                                  clear c63
                                  by_cases c88 : x7_1.size + x9_3.size ≤ 9223372036854775807
                                  · rw [if_pos c88] at H
                                    have c88b0 := eq_true c88
                                    have c88b1 : decide (x7_1.size + x9_3.size ≤ 9223372036854775807) = true := decide_eq_true c88
                                    try have c88b2 : (9223372036854775807 < x7_1.size + x9_3.size) = False := eq_false (Nat.not_lt.2 c88)
                                    by_cases c89 : (x7_1 ++ x9_3).size + 1 ≤ 9223372036854775807
                                    · rw [if_pos c89] at H
                                      have c89b0 := eq_true c89
                                      have c89b1 : decide ((x7_1 ++ x9_3).size + 1 ≤ 9223372036854775807) = true := decide_eq_true c89
                                      have c89s : x7_1.size + x9_3.size + 1 ≤ 9223372036854775807 := by rw [← ByteArray.size_append]; exact c89
                                      have c89s0 := eq_true c89s
                                      have c89s1 : decide (x7_1.size + x9_3.size + 1 ≤ 9223372036854775807) = true := decide_eq_true c89s
                                      have c89s2 : (9223372036854775807 < x7_1.size + x9_3.size + 1) = False := eq_false (Nat.not_lt.2 c89s)
                                      try have c89b2 : (9223372036854775807 < (x7_1 ++ x9_3).size + 1) = False := eq_false (Nat.not_lt.2 c89)
                                      have H' := Aside0.mk H
                                      clear H
                                      go_wp2_with (first | ((with_reducible refine gate_builtin (b := .append) (xs := #[.tmp 70, .tmp 72]) rfl ?_); (try (refine gate_guard (by rfl) ?_; dsimp only)); at_builtin; refine Kd.R_append Kd.string (w0 := w) w.heap.size rfl (.tmp 70) (.tmp 72) 23 9 (.string ⟨#[]⟩) 16 rfl Tryd.underlying23 info9 rfl (by decide) (by omega) u6 x6_1 x9_3 [.string x9_3] (fun _ => True) (fun _ => False) rfl rfl ?aP (fun _ hk => hk.elim) ?aF ?aO ?aB ?aS ?aL ?_; (case aP => exact rfl); (case aB => exact (by repeat (first | (with_reducible first | exact HB.out | apply below_alloc | apply pw_below_drewN | apply below_drew1) | exact HB.out))); (case aF => exact (fun _ _ => trivial)); (case aO => exact (by (with_reducible repeat (first | apply Kd.R_alloc | apply Kd.R_drewN | apply Kd.R_drew)); exact HO_6.out)); (case aS => exact (below_size (by repeat (first | (with_reducible first | exact HB.out | apply below_alloc | apply pw_below_drewN | apply below_drew1) | exact HB.out)))); (case aL => have := LMc26.out; omega); intro v123 w90 ho hb hg hat; rw [← Ny122.out] at ho; have n0_ := Aside0.mk (hb); have n1_ := Aside0.mk (ho); clear HB; clear HO_6; have HB := n0_; have HO124 := n1_; clear n0_ n1_; clear ho hb hg hat; have p125 : 0 ≤ (x8_1 : Int) := of_decide_eq_true (by first | (with_reducible assumption) | assumption); have q125 : x8_1 < (l1.length : Int) := of_decide_eq_true (by first | (with_reducible assumption) | assumption); obtain ⟨ad125, e125, hx125_0⟩ := Kd.at_int HR1.out x8_1 p125 q125; cases e125; replace hx125_0 := (HB.out.cell (World.block_lt_of_cell? w _ hx125_0)).trans hx125_0; replace p125 := eq_true p125; replace q125 := eq_true q125; have p130 : 0 ≤ (x8_1 : Int) := of_decide_eq_true (by first | (with_reducible assumption) | assumption); have q130 : x8_1 < (l1.length : Int) := of_decide_eq_true (by first | (with_reducible assumption) | assumption); obtain ⟨ad130, e130, hx130_0⟩ := Kd.at_int HR1.out x8_1 p130 q130; obtain rfl : ad125 = ad130 := (by injection e130); replace hx130_0 := (HB.out.cell (World.block_lt_of_cell? w _ hx130_0)).trans hx130_0; replace p130 := eq_true p130; replace q130 := eq_true q130))
                                      repeat (go_quiet (first | ((with_reducible refine gate_builtin (b := .append) (xs := #[.tmp 70, .tmp 72]) rfl ?_); (try (refine gate_guard (by rfl) ?_; dsimp only)); at_builtin; refine Kd.R_append Kd.string (w0 := w) w.heap.size rfl (.tmp 70) (.tmp 72) 23 9 (.string ⟨#[]⟩) 16 rfl Tryd.underlying23 info9 rfl (by decide) (by omega) u6 x6_1 x9_3 [.string x9_3] (fun _ => True) (fun _ => False) rfl rfl ?aP (fun _ hk => hk.elim) ?aF ?aO ?aB ?aS ?aL ?_; (case aP => exact rfl); (case aB => exact (by repeat (first | (with_reducible first | exact HB.out | apply below_alloc | apply pw_below_drewN | apply below_drew1) | exact HB.out))); (case aF => exact (fun _ _ => trivial)); (case aO => exact (by (with_reducible repeat (first | apply Kd.R_alloc | apply Kd.R_drewN | apply Kd.R_drew)); exact HO_6.out)); (case aS => exact (below_size (by repeat (first | (with_reducible first | exact HB.out | apply below_alloc | apply pw_below_drewN | apply below_drew1) | exact HB.out)))); (case aL => have := LMc26.out; omega); intro v123 w90 ho hb hg hat; rw [← Ny122.out] at ho; have n0_ := Aside0.mk (hb); have n1_ := Aside0.mk (ho); clear HB; clear HO_6; have HB := n0_; have HO124 := n1_; clear n0_ n1_; clear ho hb hg hat; have p125 : 0 ≤ (x8_1 : Int) := of_decide_eq_true (by first | (with_reducible assumption) | assumption); have q125 : x8_1 < (l1.length : Int) := of_decide_eq_true (by first | (with_reducible assumption) | assumption); obtain ⟨ad125, e125, hx125_0⟩ := Kd.at_int HR1.out x8_1 p125 q125; cases e125; replace hx125_0 := (HB.out.cell (World.block_lt_of_cell? w _ hx125_0)).trans hx125_0; replace p125 := eq_true p125; replace q125 := eq_true q125; have p130 : 0 ≤ (x8_1 : Int) := of_decide_eq_true (by first | (with_reducible assumption) | assumption); have q130 : x8_1 < (l1.length : Int) := of_decide_eq_true (by first | (with_reducible assumption) | assumption); obtain ⟨ad130, e130, hx130_0⟩ := Kd.at_int HR1.out x8_1 p130 q130; obtain rfl : ad125 = ad130 := (by injection e130); replace hx130_0 := (HB.out.cell (World.block_lt_of_cell? w _ hx130_0)).trans hx130_0; replace p130 := eq_true p130; replace q130 := eq_true q130)); try go_wp2_with (first | ((with_reducible refine gate_builtin (b := .append) (xs := #[.tmp 70, .tmp 72]) rfl ?_); (try (refine gate_guard (by rfl) ?_; dsimp only)); at_builtin; refine Kd.R_append Kd.string (w0 := w) w.heap.size rfl (.tmp 70) (.tmp 72) 23 9 (.string ⟨#[]⟩) 16 rfl Tryd.underlying23 info9 rfl (by decide) (by omega) u6 x6_1 x9_3 [.string x9_3] (fun _ => True) (fun _ => False) rfl rfl ?aP (fun _ hk => hk.elim) ?aF ?aO ?aB ?aS ?aL ?_; (case aP => exact rfl); (case aB => exact (by repeat (first | (with_reducible first | exact HB.out | apply below_alloc | apply pw_below_drewN | apply below_drew1) | exact HB.out))); (case aF => exact (fun _ _ => trivial)); (case aO => exact (by (with_reducible repeat (first | apply Kd.R_alloc | apply Kd.R_drewN | apply Kd.R_drew)); exact HO_6.out)); (case aS => exact (below_size (by repeat (first | (with_reducible first | exact HB.out | apply below_alloc | apply pw_below_drewN | apply below_drew1) | exact HB.out)))); (case aL => have := LMc26.out; omega); intro v123 w90 ho hb hg hat; rw [← Ny122.out] at ho; have n0_ := Aside0.mk (hb); have n1_ := Aside0.mk (ho); clear HB; clear HO_6; have HB := n0_; have HO124 := n1_; clear n0_ n1_; clear ho hb hg hat; have p125 : 0 ≤ (x8_1 : Int) := of_decide_eq_true (by first | (with_reducible assumption) | assumption); have q125 : x8_1 < (l1.length : Int) := of_decide_eq_true (by first | (with_reducible assumption) | assumption); obtain ⟨ad125, e125, hx125_0⟩ := Kd.at_int HR1.out x8_1 p125 q125; cases e125; replace hx125_0 := (HB.out.cell (World.block_lt_of_cell? w _ hx125_0)).trans hx125_0; replace p125 := eq_true p125; replace q125 := eq_true q125; have p130 : 0 ≤ (x8_1 : Int) := of_decide_eq_true (by first | (with_reducible assumption) | assumption); have q130 : x8_1 < (l1.length : Int) := of_decide_eq_true (by first | (with_reducible assumption) | assumption); obtain ⟨ad130, e130, hx130_0⟩ := Kd.at_int HR1.out x8_1 p130 q130; obtain rfl : ad125 = ad130 := (by injection e130); replace hx130_0 := (HB.out.cell (World.block_lt_of_cell? w _ hx130_0)).trans hx130_0; replace p130 := eq_true p130; replace q130 := eq_true q130)))
                                      go_roundg kj8
                                      case measure => have := HK1.out; have := HJ4.out; have := HK3.out; have := HJ8.out; omega
                                      case rel => exact ⟨(y122), ((x7_1 ++ x9_3) ++ (⟨#[10]⟩ : ByteArray)), (wrap64 (x8_1 + 1)), (by first | rfl | (simp; done) | (simp [*]; done)), (by first | rfl | (simp; done) | (simp [*]; done)), H', ⟨by have := HK1.out; have := HJ4.out; have := HK3.out; have := HJ8.out; omega⟩, ⟨by (with_reducible repeat (first | apply Kd.R_alloc | apply Kd.R_drewN | apply Kd.R_drew)); exact HO124.out⟩, ⟨by repeat (first | (with_reducible first | exact HB.out | apply below_alloc | apply pw_below_drewN | apply below_drew1) | exact HB.out)⟩⟩
                                    · rw [if_neg c89] at H
                                      exact absurd H (by simp)
                                  · rw [if_neg c88] at H
                                    exact absurd H (by simp)
                              · rw [if_neg c62] at H
                                have c62b0 : ((Go.bits .and .i64 (rd l1 x8_1) 3) == 2) = false := beq_eq_false_iff_ne.mpr c62
                                have c62b1 : ((Go.bits .and .i64 (rd l1 x8_1) 3) != 2) = true := bne_iff_ne.mpr c62
                                by_cases c91 : x7_1.size + x9_3.size ≤ 9223372036854775807
                                · rw [if_pos c91] at H
                                  have c91b0 := eq_true c91
                                  have c91b1 : decide (x7_1.size + x9_3.size ≤ 9223372036854775807) = true := decide_eq_true c91
                                  try have c91b2 : (9223372036854775807 < x7_1.size + x9_3.size) = False := eq_false (Nat.not_lt.2 c91)
                                  by_cases c92 : (x7_1 ++ x9_3).size + 1 ≤ 9223372036854775807
                                  · rw [if_pos c92] at H
                                    have c92b0 := eq_true c92
                                    have c92b1 : decide ((x7_1 ++ x9_3).size + 1 ≤ 9223372036854775807) = true := decide_eq_true c92
                                    have c92s : x7_1.size + x9_3.size + 1 ≤ 9223372036854775807 := by rw [← ByteArray.size_append]; exact c92
                                    have c92s0 := eq_true c92s
                                    have c92s1 : decide (x7_1.size + x9_3.size + 1 ≤ 9223372036854775807) = true := decide_eq_true c92s
                                    have c92s2 : (9223372036854775807 < x7_1.size + x9_3.size + 1) = False := eq_false (Nat.not_lt.2 c92s)
                                    try have c92b2 : (9223372036854775807 < (x7_1 ++ x9_3).size + 1) = False := eq_false (Nat.not_lt.2 c92)
                                    have H' := Aside0.mk H
                                    clear H
                                    go_wp2_with (first | ((with_reducible refine gate_builtin (b := .append) (xs := #[.tmp 70, .tmp 72]) rfl ?_); (try (refine gate_guard (by rfl) ?_; dsimp only)); at_builtin; refine Kd.R_append Kd.string (w0 := w) w.heap.size rfl (.tmp 70) (.tmp 72) 23 9 (.string ⟨#[]⟩) 16 rfl Tryd.underlying23 info9 rfl (by decide) (by omega) u6 x6_1 x9_3 [.string x9_3] (fun _ => True) (fun _ => False) rfl rfl ?aP (fun _ hk => hk.elim) ?aF ?aO ?aB ?aS ?aL ?_; (case aP => exact rfl); (case aB => exact (by repeat (first | (with_reducible first | exact HB.out | apply below_alloc | apply pw_below_drewN | apply below_drew1) | exact HB.out))); (case aF => exact (fun _ _ => trivial)); (case aO => exact (by (with_reducible repeat (first | apply Kd.R_alloc | apply Kd.R_drewN | apply Kd.R_drew)); exact HO_6.out)); (case aS => exact (below_size (by repeat (first | (with_reducible first | exact HB.out | apply below_alloc | apply pw_below_drewN | apply below_drew1) | exact HB.out)))); (case aL => have := LMc26.out; omega); intro v123 w93 ho hb hg hat; rw [← Ny122.out] at ho; have n0_ := Aside0.mk (hb); have n1_ := Aside0.mk (ho); clear HB; clear HO_6; have HB := n0_; have HO124 := n1_; clear n0_ n1_; clear ho hb hg hat; have p125 : 0 ≤ (x8_1 : Int) := of_decide_eq_true (by first | (with_reducible assumption) | assumption); have q125 : x8_1 < (l1.length : Int) := of_decide_eq_true (by first | (with_reducible assumption) | assumption); obtain ⟨ad125, e125, hx125_0⟩ := Kd.at_int HR1.out x8_1 p125 q125; cases e125; replace hx125_0 := (HB.out.cell (World.block_lt_of_cell? w _ hx125_0)).trans hx125_0; replace p125 := eq_true p125; replace q125 := eq_true q125; have p130 : 0 ≤ (x8_1 : Int) := of_decide_eq_true (by first | (with_reducible assumption) | assumption); have q130 : x8_1 < (l1.length : Int) := of_decide_eq_true (by first | (with_reducible assumption) | assumption); obtain ⟨ad130, e130, hx130_0⟩ := Kd.at_int HR1.out x8_1 p130 q130; obtain rfl : ad125 = ad130 := (by injection e130); replace hx130_0 := (HB.out.cell (World.block_lt_of_cell? w _ hx130_0)).trans hx130_0; replace p130 := eq_true p130; replace q130 := eq_true q130))
                                    repeat (go_quiet (first | ((with_reducible refine gate_builtin (b := .append) (xs := #[.tmp 70, .tmp 72]) rfl ?_); (try (refine gate_guard (by rfl) ?_; dsimp only)); at_builtin; refine Kd.R_append Kd.string (w0 := w) w.heap.size rfl (.tmp 70) (.tmp 72) 23 9 (.string ⟨#[]⟩) 16 rfl Tryd.underlying23 info9 rfl (by decide) (by omega) u6 x6_1 x9_3 [.string x9_3] (fun _ => True) (fun _ => False) rfl rfl ?aP (fun _ hk => hk.elim) ?aF ?aO ?aB ?aS ?aL ?_; (case aP => exact rfl); (case aB => exact (by repeat (first | (with_reducible first | exact HB.out | apply below_alloc | apply pw_below_drewN | apply below_drew1) | exact HB.out))); (case aF => exact (fun _ _ => trivial)); (case aO => exact (by (with_reducible repeat (first | apply Kd.R_alloc | apply Kd.R_drewN | apply Kd.R_drew)); exact HO_6.out)); (case aS => exact (below_size (by repeat (first | (with_reducible first | exact HB.out | apply below_alloc | apply pw_below_drewN | apply below_drew1) | exact HB.out)))); (case aL => have := LMc26.out; omega); intro v123 w93 ho hb hg hat; rw [← Ny122.out] at ho; have n0_ := Aside0.mk (hb); have n1_ := Aside0.mk (ho); clear HB; clear HO_6; have HB := n0_; have HO124 := n1_; clear n0_ n1_; clear ho hb hg hat; have p125 : 0 ≤ (x8_1 : Int) := of_decide_eq_true (by first | (with_reducible assumption) | assumption); have q125 : x8_1 < (l1.length : Int) := of_decide_eq_true (by first | (with_reducible assumption) | assumption); obtain ⟨ad125, e125, hx125_0⟩ := Kd.at_int HR1.out x8_1 p125 q125; cases e125; replace hx125_0 := (HB.out.cell (World.block_lt_of_cell? w _ hx125_0)).trans hx125_0; replace p125 := eq_true p125; replace q125 := eq_true q125; have p130 : 0 ≤ (x8_1 : Int) := of_decide_eq_true (by first | (with_reducible assumption) | assumption); have q130 : x8_1 < (l1.length : Int) := of_decide_eq_true (by first | (with_reducible assumption) | assumption); obtain ⟨ad130, e130, hx130_0⟩ := Kd.at_int HR1.out x8_1 p130 q130; obtain rfl : ad125 = ad130 := (by injection e130); replace hx130_0 := (HB.out.cell (World.block_lt_of_cell? w _ hx130_0)).trans hx130_0; replace p130 := eq_true p130; replace q130 := eq_true q130)); try go_wp2_with (first | ((with_reducible refine gate_builtin (b := .append) (xs := #[.tmp 70, .tmp 72]) rfl ?_); (try (refine gate_guard (by rfl) ?_; dsimp only)); at_builtin; refine Kd.R_append Kd.string (w0 := w) w.heap.size rfl (.tmp 70) (.tmp 72) 23 9 (.string ⟨#[]⟩) 16 rfl Tryd.underlying23 info9 rfl (by decide) (by omega) u6 x6_1 x9_3 [.string x9_3] (fun _ => True) (fun _ => False) rfl rfl ?aP (fun _ hk => hk.elim) ?aF ?aO ?aB ?aS ?aL ?_; (case aP => exact rfl); (case aB => exact (by repeat (first | (with_reducible first | exact HB.out | apply below_alloc | apply pw_below_drewN | apply below_drew1) | exact HB.out))); (case aF => exact (fun _ _ => trivial)); (case aO => exact (by (with_reducible repeat (first | apply Kd.R_alloc | apply Kd.R_drewN | apply Kd.R_drew)); exact HO_6.out)); (case aS => exact (below_size (by repeat (first | (with_reducible first | exact HB.out | apply below_alloc | apply pw_below_drewN | apply below_drew1) | exact HB.out)))); (case aL => have := LMc26.out; omega); intro v123 w93 ho hb hg hat; rw [← Ny122.out] at ho; have n0_ := Aside0.mk (hb); have n1_ := Aside0.mk (ho); clear HB; clear HO_6; have HB := n0_; have HO124 := n1_; clear n0_ n1_; clear ho hb hg hat; have p125 : 0 ≤ (x8_1 : Int) := of_decide_eq_true (by first | (with_reducible assumption) | assumption); have q125 : x8_1 < (l1.length : Int) := of_decide_eq_true (by first | (with_reducible assumption) | assumption); obtain ⟨ad125, e125, hx125_0⟩ := Kd.at_int HR1.out x8_1 p125 q125; cases e125; replace hx125_0 := (HB.out.cell (World.block_lt_of_cell? w _ hx125_0)).trans hx125_0; replace p125 := eq_true p125; replace q125 := eq_true q125; have p130 : 0 ≤ (x8_1 : Int) := of_decide_eq_true (by first | (with_reducible assumption) | assumption); have q130 : x8_1 < (l1.length : Int) := of_decide_eq_true (by first | (with_reducible assumption) | assumption); obtain ⟨ad130, e130, hx130_0⟩ := Kd.at_int HR1.out x8_1 p130 q130; obtain rfl : ad125 = ad130 := (by injection e130); replace hx130_0 := (HB.out.cell (World.block_lt_of_cell? w _ hx130_0)).trans hx130_0; replace p130 := eq_true p130; replace q130 := eq_true q130)))
                                    go_roundg kj8
                                    case measure => have := HK1.out; have := HJ4.out; have := HK3.out; have := HJ8.out; omega
                                    case rel => exact ⟨(y122), ((x7_1 ++ x9_3) ++ (⟨#[10]⟩ : ByteArray)), (wrap64 (x8_1 + 1)), (by first | rfl | (simp; done) | (simp [*]; done)), (by first | rfl | (simp; done) | (simp [*]; done)), H', ⟨by have := HK1.out; have := HJ4.out; have := HK3.out; have := HJ8.out; omega⟩, ⟨by (with_reducible repeat (first | apply Kd.R_alloc | apply Kd.R_drewN | apply Kd.R_drew)); exact HO124.out⟩, ⟨by repeat (first | (with_reducible first | exact HB.out | apply below_alloc | apply pw_below_drewN | apply below_drew1) | exact HB.out)⟩⟩
                                  · rw [if_neg c92] at H
                                    exact absurd H (by simp)
                                · rw [if_neg c91] at H
                                  exact absurd H (by simp)
                          · rw [if_neg c28] at H
                            exact absurd H (by simp)
                        · rw [if_neg c27] at H
                          exact absurd H (by simp)
                      · rw [if_neg c26] at H
                        exact absurd H (by simp)
          · replace c8 := Bool.eq_false_iff.mpr c8
            subst c8
            have H1 : ((runes_Lines.f x7_1).bind fun t134 => (if t117 = true then (scriptoriumlaw01_RunesJoin.j4 kj4 x6_1 t134 ((t134.length : Int) != (x6_1.length : Int))) else (scriptoriumlaw01_RunesJoin.j4 kj4 x6_1 t134 true))) = some r := by rw [if_neg (show ¬ (false = true) by decide)] at H; exact H
            clear H
            have H := H1
            clear H1
            replace H := Option.bind_eq_some_iff.mp H
            obtain ⟨t134, A940, H⟩ := H
            replace H : (if t117 = true then (scriptoriumlaw01_RunesJoin.j4 kj4 x6_1 t134 ((t134.length : Int) != (x6_1.length : Int))) else (scriptoriumlaw01_RunesJoin.j4 kj4 x6_1 t134 true)) = some r := H
            have A94 := Aside0.mk A940
            clear A940
            have HC95 := Aside0.mk H
            clear H
            go_upto_region 21 with (first | (go_at_call 9; (with_reducible refine (runes_Lines.calls x7_1 t134 _ A94.out).mono ?_); rintro e w96 ⟨v135, rfl, ho0, hb⟩; have n0_ := Aside0.mk (Kd.R_elder' (by (with_reducible repeat (first | apply Kd.R_alloc | apply Kd.R_drewN | apply Kd.R_drew)); exact HO_6.out) (Kd.R_base ho0) hb); have n1_ := Aside0.mk (Kd.R_lower (Kd.R_new' ho0 (Kd.R_lt (by (with_reducible repeat (first | apply Kd.R_alloc | apply Kd.R_drewN | apply Kd.R_drew)); exact HO_6.out))) (below_size (by repeat (first | (with_reducible first | exact HB.out | apply below_alloc | apply pw_below_drewN | apply below_drew1) | exact HB.out)))); have n2_ := Aside0.mk (below_step (by repeat (first | (with_reducible first | exact HB.out | apply below_alloc | apply pw_below_drewN | apply below_drew1) | exact HB.out)) hb); clear HO_6; clear HB; have HO_6 := n0_; have HO136 := n1_; have HB := n2_; clear n0_ n1_ n2_; (try clear hb); (try clear hb2); (try clear hk); (try clear hi); (try clear ho0)))
            repeat (go_quiet (first | (go_at_call 9; (with_reducible refine (runes_Lines.calls x7_1 t134 _ A94.out).mono ?_); rintro e w96 ⟨v135, rfl, ho0, hb⟩; have n0_ := Aside0.mk (Kd.R_elder' (by (with_reducible repeat (first | apply Kd.R_alloc | apply Kd.R_drewN | apply Kd.R_drew)); exact HO_6.out) (Kd.R_base ho0) hb); have n1_ := Aside0.mk (Kd.R_lower (Kd.R_new' ho0 (Kd.R_lt (by (with_reducible repeat (first | apply Kd.R_alloc | apply Kd.R_drewN | apply Kd.R_drew)); exact HO_6.out))) (below_size (by repeat (first | (with_reducible first | exact HB.out | apply below_alloc | apply pw_below_drewN | apply below_drew1) | exact HB.out)))); have n2_ := Aside0.mk (below_step (by repeat (first | (with_reducible first | exact HB.out | apply below_alloc | apply pw_below_drewN | apply below_drew1) | exact HB.out)) hb); clear HO_6; clear HB; have HO_6 := n0_; have HO136 := n1_; have HB := n2_; clear n0_ n1_ n2_; (try clear hb); (try clear hb2); (try clear hk); (try clear hi); (try clear ho0))); go_upto_region 21 with (first | (go_at_call 9; (with_reducible refine (runes_Lines.calls x7_1 t134 _ A94.out).mono ?_); rintro e w96 ⟨v135, rfl, ho0, hb⟩; have n0_ := Aside0.mk (Kd.R_elder' (by (with_reducible repeat (first | apply Kd.R_alloc | apply Kd.R_drewN | apply Kd.R_drew)); exact HO_6.out) (Kd.R_base ho0) hb); have n1_ := Aside0.mk (Kd.R_lower (Kd.R_new' ho0 (Kd.R_lt (by (with_reducible repeat (first | apply Kd.R_alloc | apply Kd.R_drewN | apply Kd.R_drew)); exact HO_6.out))) (below_size (by repeat (first | (with_reducible first | exact HB.out | apply below_alloc | apply pw_below_drewN | apply below_drew1) | exact HB.out)))); have n2_ := Aside0.mk (below_step (by repeat (first | (with_reducible first | exact HB.out | apply below_alloc | apply pw_below_drewN | apply below_drew1) | exact HB.out)) hb); clear HO_6; clear HB; have HO_6 := n0_; have HO136 := n1_; have HB := n2_; clear n0_ n1_ n2_; (try clear hb); (try clear hb2); (try clear hk); (try clear hi); (try clear ho0))))
            (try simp only [Act.put, List.setIfInBounds_toArray, List.set_cons_zero, List.set_cons_succ])
            go_cut [141] (fun v141 wc => ∃ (kq : Nat) (x141_94 : Bool), v141 = .bool x141_94 ∧ Aside0 (scriptoriumlaw01_RunesJoin.j4 kq x6_1 t134 x141_94 = some r) ∧ Aside0 (kq ≤ kj4) ∧ Aside0 (Kd.R Kd.string 9 wc w.heap.size (fun k_ => some k_ ≠ (v135 : Value).ownBlock) u6 x6_1) ∧ Aside0 (Kd.R Kd.string 9 wc w.heap.size (fun k_ => some k_ ≠ (u6 : Value).ownBlock) v135 t134) ∧ Aside0 (Below w.heap.size w wc))
            case first =>
              have H := HC95.out
              clear HC95
              by_cases c97 : t117 = true
              · subst c97
                have H1 : (scriptoriumlaw01_RunesJoin.j4 kj4 x6_1 t134 ((t134.length : Int) != (x6_1.length : Int))) = some r := by rw [if_pos rfl] at H; exact H
                clear H
                have H := H1
                clear H1
                have H' := Aside0.mk H
                clear H
                obtain ⟨Ao98, co98, eo98⟩ := Kd.R_slice HO136.out
                subst eo98
                obtain ⟨Ao99, co99, eo99⟩ := Kd.R_slice HO_6.out
                subst eo99
                go_wp2
                repeat (go_quiet (fail); try go_wp2)
                go_meet
                case rel => exact ⟨_, (((t134.length : Int) != (x6_1.length : Int))), (by first | rfl | (simp; done) | (simp [*]; done)), H', ⟨by have := HK1.out; have := HJ4.out; first | omega | exact Nat.le_refl _⟩, ⟨by (with_reducible repeat (first | apply Kd.R_alloc | apply Kd.R_drewN | apply Kd.R_drew)); exact Kd.R_mono HO_6.out (fun _ hk => hk.2)⟩, ⟨by (with_reducible repeat (first | apply Kd.R_alloc | apply Kd.R_drewN | apply Kd.R_drew)); exact Kd.R_mono HO136.out (fun _ hk => hk.2)⟩, ⟨by repeat (first | (with_reducible first | exact HB.out | apply below_alloc | apply pw_below_drewN | apply below_drew1) | exact HB.out)⟩⟩
              · replace c97 := Bool.eq_false_iff.mpr c97
                subst c97
                have H1 : (scriptoriumlaw01_RunesJoin.j4 kj4 x6_1 t134 true) = some r := by rw [if_neg (show ¬ (false = true) by decide)] at H; exact H
                clear H
                have H := H1
                clear H1
                have H' := Aside0.mk H
                clear H
                go_wp2
                repeat (go_quiet (fail); try go_wp2)
                go_meet
                case rel => exact ⟨_, (true), (by first | rfl | (simp; done) | (simp [*]; done)), H', ⟨by have := HK1.out; have := HJ4.out; first | omega | exact Nat.le_refl _⟩, ⟨by (with_reducible repeat (first | apply Kd.R_alloc | apply Kd.R_drewN | apply Kd.R_drew)); exact Kd.R_mono HO_6.out (fun _ hk => hk.2)⟩, ⟨by (with_reducible repeat (first | apply Kd.R_alloc | apply Kd.R_drewN | apply Kd.R_drew)); exact Kd.R_mono HO136.out (fun _ hk => hk.2)⟩, ⟨by repeat (first | (with_reducible first | exact HB.out | apply below_alloc | apply pw_below_drewN | apply below_drew1) | exact HB.out)⟩⟩
            case rest =>
              clear HC95
              try clear c1
              try clear p1
              try clear q1
              try clear hx1
              try clear c2
              try clear p2
              try clear q2
              try clear hx2
              try clear c3
              try clear c4
              try clear p4
              try clear q4
              try clear hx4
              try clear qi4
              try clear c5
              try clear c6
              try clear p6
              try clear c7
              try clear p7
              try clear q7
              try clear hx7
              try clear qi7
              try clear c8
              try clear c9
              try clear p11
              try clear q11
              try clear hx11
              try clear p12
              try clear q12
              try clear hx12
              try clear c13
              try clear p13
              try clear q13
              try clear hx13
              try clear c14
              try clear c15
              try clear c16
              try clear c17
              try clear p18
              try clear q18
              try clear hx18
              try clear p20
              try clear q20
              try clear hx20
              try clear c21
              try clear c21b0
              try clear c21b1
              try clear c22
              try clear c22b0
              try clear c23
              try clear c23b0
              try clear c23b1
              try clear c24
              try clear c24b0
              try clear c24b1
              try clear c25
              try clear c25b0
              try clear c25b1
              try clear c25b2
              try clear c26
              try clear c27
              try clear c27b0
              try clear c28
              try clear c28b0
              try clear c29
              try clear c29b0
              try clear c29b1
              try clear c30
              try clear c30b0
              try clear c30b1
              try clear c31
              try clear c31b0
              try clear c32
              try clear c32b0
              try clear c34
              try clear c34b0
              try clear c35
              try clear c35b0
              try clear c35b1
              try clear c36
              try clear c36b0
              try clear c36b1
              try clear c36b2
              try clear c37
              try clear c37b0
              try clear c37b1
              try clear c37b2
              try clear c39
              try clear c39b0
              try clear c39b1
              try clear p40
              try clear q40
              try clear hx40
              try clear qi40
              try clear c41
              try clear c41b0
              try clear c41b1
              try clear c42
              try clear c42b0
              try clear c42b1
              try clear c42b2
              try clear c43
              try clear c43b0
              try clear c43b1
              try clear c43b2
              try clear p45
              try clear q45
              try clear hx45
              try clear qi45
              try clear c46
              try clear c46b0
              try clear c46b1
              try clear c47
              try clear c47b0
              try clear c47b1
              try clear c47b2
              try clear c48
              try clear c48b0
              try clear c48b1
              try clear c48b2
              try clear c50
              try clear c50b0
              try clear c50b1
              try clear c50b2
              try clear c51
              try clear c51b0
              try clear c51b1
              try clear c51b2
              try clear c53
              try clear c53b0
              try clear c53b1
              try clear c53b2
              try clear c54
              try clear c54b0
              try clear c54b1
              try clear c54b2
              try clear c56
              try clear c56b0
              try clear c56b1
              try clear c56b2
              try clear c57
              try clear c57b0
              try clear c57b1
              try clear c57b2
              try clear c59
              try clear c59b0
              try clear c59b1
              try clear c59b2
              try clear c60
              try clear c60b0
              try clear c60b1
              try clear c60b2
              try clear c62
              try clear c62b0
              try clear c62b1
              try clear c63
              try clear c63b0
              try clear c64
              try clear c64b0
              try clear p64
              try clear c66
              try clear c66b0
              try clear c67
              try clear c67b0
              try clear c67b1
              try clear c68
              try clear c68b0
              try clear c68b1
              try clear c68b2
              try clear c69
              try clear c69b0
              try clear c69b1
              try clear c69b2
              try clear c71
              try clear c71b0
              try clear c71b1
              try clear p72
              try clear q72
              try clear hx72
              try clear qi72
              try clear c73
              try clear c73b0
              try clear c73b1
              try clear c74
              try clear c74b0
              try clear c74b1
              try clear c74b2
              try clear c75
              try clear c75b0
              try clear c75b1
              try clear c75b2
              try clear p77
              try clear q77
              try clear hx77
              try clear qi77
              try clear c78
              try clear c78b0
              try clear c78b1
              try clear c79
              try clear c79b0
              try clear c79b1
              try clear c79b2
              try clear c80
              try clear c80b0
              try clear c80b1
              try clear c80b2
              try clear c82
              try clear c82b0
              try clear c82b1
              try clear c82b2
              try clear c83
              try clear c83b0
              try clear c83b1
              try clear c83b2
              try clear c85
              try clear c85b0
              try clear c85b1
              try clear c85b2
              try clear c86
              try clear c86b0
              try clear c86b1
              try clear c86b2
              try clear c88
              try clear c88b0
              try clear c88b1
              try clear c88b2
              try clear c89
              try clear c89b0
              try clear c89b1
              try clear c89b2
              try clear c91
              try clear c91b0
              try clear c91b1
              try clear c91b2
              try clear c92
              try clear c92b0
              try clear c92b1
              try clear c92b2
              try clear c97
              try clear hx119_0
              try clear hx120_0
              try clear hx121_0
              try clear hx125_0
              try clear hx126_0
              try clear hx127_0
              try clear hx128_0
              try clear hx129_0
              try clear hx130_0
              try clear hx131_0
              try clear hx132_0
              try clear hx133_0
              try clear p119
              try clear p120
              try clear p121
              try clear p125
              try clear p126
              try clear p127
              try clear p128
              try clear p129
              try clear p130
              try clear p131
              try clear p132
              try clear p133
              try clear p18
              try clear p20
              try clear p40
              try clear p45
              try clear p72
              try clear p77
              try clear q119
              try clear q120
              try clear q121
              try clear q125
              try clear q126
              try clear q127
              try clear q128
              try clear q129
              try clear q130
              try clear q131
              try clear q132
              try clear q133
              try clear q18
              try clear q20
              try clear q40
              try clear q45
              try clear q72
              try clear q77
              obtain ⟨kq, x141_94, rfl, HA, HJ94, HO_6, HO_12, HB⟩ := hcut
              cases kq with
              | zero => exact absurd HA.out (by simp [scriptoriumlaw01_RunesJoin.j4])
              | succ kj94 =>
                have H := HA.out
                clear HA
                simp only [scriptoriumlaw01_RunesJoin.j4] at H
                by_cases c100 : x141_94 = true
                · subst c100
                  have H1 : (some false) = some r := by rw [if_pos rfl] at H; exact H
                  clear H
                  have H := H1
                  clear H1
                  obtain rfl := Option.some.inj H
                  go_wp2
                  repeat (go_quiet (fail); try go_wp2)
                  go_ret
                  exact ⟨by first | rfl | (simp [errW_none, errW_some] <;> rfl) | (simp [*, errW_none, errW_some] <;> rfl), by repeat (first | (with_reducible first | exact HB.out | apply below_alloc | apply pw_below_drewN | apply below_drew1) | exact HB.out)⟩
                · replace c100 := Bool.eq_false_iff.mpr c100
                  subst c100
                  have H1 : (scriptoriumlaw01_RunesJoin.l2 kj94 x6_1 t134 0) = some r := by rw [if_neg (show ¬ (false = true) by decide)] at H; exact H
                  clear H
                  have H := H1
                  clear H1
                  have H' := Aside0.mk H
                  clear H
                  go_wp2
                  repeat (go_quiet (fail); try go_wp2)
                  go_loopg [13] kj94 (fun kq v13 w' => ∃ (x13_4 : Int), v13 = .int .i64 x13_4 ∧ Aside0 (scriptoriumlaw01_RunesJoin.l2 kq x6_1 t134 x13_4 = some r) ∧ Aside0 (kq ≤ kj94) ∧ Aside0 (Kd.R Kd.string 9 w' w.heap.size (fun k_ => some k_ ≠ (v135 : Value).ownBlock) u6 x6_1) ∧ Aside0 (Kd.R Kd.string 9 w' w.heap.size (fun k_ => some k_ ≠ (u6 : Value).ownBlock) v135 t134) ∧ Aside0 (Below w.heap.size w w'))
                  case atStart => exact ⟨(0), (by first | rfl | (simp; done) | (simp [*]; done)), H', ⟨Nat.le_refl _⟩, ⟨by (with_reducible repeat (first | apply Kd.R_alloc | apply Kd.R_drewN | apply Kd.R_drew)); exact HO_6.out⟩, ⟨by (with_reducible repeat (first | apply Kd.R_alloc | apply Kd.R_drewN | apply Kd.R_drew)); exact HO_12.out⟩, ⟨by repeat (first | (with_reducible first | exact HB.out | apply below_alloc | apply pw_below_drewN | apply below_drew1) | exact HB.out)⟩⟩
                  case round =>
                    clear H'
                    try clear c1
                    try clear p1
                    try clear q1
                    try clear hx1
                    try clear c2
                    try clear p2
                    try clear q2
                    try clear hx2
                    try clear c3
                    try clear c4
                    try clear p4
                    try clear q4
                    try clear hx4
                    try clear qi4
                    try clear c5
                    try clear c6
                    try clear p6
                    try clear c7
                    try clear p7
                    try clear q7
                    try clear hx7
                    try clear qi7
                    try clear c8
                    try clear c9
                    try clear c10
                    try clear p11
                    try clear q11
                    try clear hx11
                    try clear p12
                    try clear q12
                    try clear hx12
                    try clear c13
                    try clear p13
                    try clear q13
                    try clear hx13
                    try clear c14
                    try clear c15
                    try clear c16
                    try clear c17
                    try clear p18
                    try clear q18
                    try clear hx18
                    try clear p20
                    try clear q20
                    try clear hx20
                    try clear c21
                    try clear c21b0
                    try clear c21b1
                    try clear c22
                    try clear c22b0
                    try clear c23
                    try clear c23b0
                    try clear c23b1
                    try clear c24
                    try clear c24b0
                    try clear c24b1
                    try clear c25
                    try clear c25b0
                    try clear c25b1
                    try clear c25b2
                    try clear c26
                    try clear c27
                    try clear c27b0
                    try clear c28
                    try clear c28b0
                    try clear c29
                    try clear c29b0
                    try clear c29b1
                    try clear c30
                    try clear c30b0
                    try clear c30b1
                    try clear c31
                    try clear c31b0
                    try clear c32
                    try clear c32b0
                    try clear c34
                    try clear c34b0
                    try clear c35
                    try clear c35b0
                    try clear c35b1
                    try clear c36
                    try clear c36b0
                    try clear c36b1
                    try clear c36b2
                    try clear c37
                    try clear c37b0
                    try clear c37b1
                    try clear c37b2
                    try clear c39
                    try clear c39b0
                    try clear c39b1
                    try clear p40
                    try clear q40
                    try clear hx40
                    try clear qi40
                    try clear c41
                    try clear c41b0
                    try clear c41b1
                    try clear c42
                    try clear c42b0
                    try clear c42b1
                    try clear c42b2
                    try clear c43
                    try clear c43b0
                    try clear c43b1
                    try clear c43b2
                    try clear p45
                    try clear q45
                    try clear hx45
                    try clear qi45
                    try clear c46
                    try clear c46b0
                    try clear c46b1
                    try clear c47
                    try clear c47b0
                    try clear c47b1
                    try clear c47b2
                    try clear c48
                    try clear c48b0
                    try clear c48b1
                    try clear c48b2
                    try clear c50
                    try clear c50b0
                    try clear c50b1
                    try clear c50b2
                    try clear c51
                    try clear c51b0
                    try clear c51b1
                    try clear c51b2
                    try clear c53
                    try clear c53b0
                    try clear c53b1
                    try clear c53b2
                    try clear c54
                    try clear c54b0
                    try clear c54b1
                    try clear c54b2
                    try clear c56
                    try clear c56b0
                    try clear c56b1
                    try clear c56b2
                    try clear c57
                    try clear c57b0
                    try clear c57b1
                    try clear c57b2
                    try clear c59
                    try clear c59b0
                    try clear c59b1
                    try clear c59b2
                    try clear c60
                    try clear c60b0
                    try clear c60b1
                    try clear c60b2
                    try clear c62
                    try clear c62b0
                    try clear c62b1
                    try clear c63
                    try clear c63b0
                    try clear c64
                    try clear c64b0
                    try clear p64
                    try clear c66
                    try clear c66b0
                    try clear c67
                    try clear c67b0
                    try clear c67b1
                    try clear c68
                    try clear c68b0
                    try clear c68b1
                    try clear c68b2
                    try clear c69
                    try clear c69b0
                    try clear c69b1
                    try clear c69b2
                    try clear c71
                    try clear c71b0
                    try clear c71b1
                    try clear p72
                    try clear q72
                    try clear hx72
                    try clear qi72
                    try clear c73
                    try clear c73b0
                    try clear c73b1
                    try clear c74
                    try clear c74b0
                    try clear c74b1
                    try clear c74b2
                    try clear c75
                    try clear c75b0
                    try clear c75b1
                    try clear c75b2
                    try clear p77
                    try clear q77
                    try clear hx77
                    try clear qi77
                    try clear c78
                    try clear c78b0
                    try clear c78b1
                    try clear c79
                    try clear c79b0
                    try clear c79b1
                    try clear c79b2
                    try clear c80
                    try clear c80b0
                    try clear c80b1
                    try clear c80b2
                    try clear c82
                    try clear c82b0
                    try clear c82b1
                    try clear c82b2
                    try clear c83
                    try clear c83b0
                    try clear c83b1
                    try clear c83b2
                    try clear c85
                    try clear c85b0
                    try clear c85b1
                    try clear c85b2
                    try clear c86
                    try clear c86b0
                    try clear c86b1
                    try clear c86b2
                    try clear c88
                    try clear c88b0
                    try clear c88b1
                    try clear c88b2
                    try clear c89
                    try clear c89b0
                    try clear c89b1
                    try clear c89b2
                    try clear c91
                    try clear c91b0
                    try clear c91b1
                    try clear c91b2
                    try clear c92
                    try clear c92b0
                    try clear c92b1
                    try clear c92b2
                    try clear c97
                    try clear c100
                    try clear hx119_0
                    try clear hx120_0
                    try clear hx121_0
                    try clear hx125_0
                    try clear hx126_0
                    try clear hx127_0
                    try clear hx128_0
                    try clear hx129_0
                    try clear hx130_0
                    try clear hx131_0
                    try clear hx132_0
                    try clear hx133_0
                    try clear p1
                    try clear p11
                    try clear p119
                    try clear p12
                    try clear p120
                    try clear p121
                    try clear p125
                    try clear p126
                    try clear p127
                    try clear p128
                    try clear p129
                    try clear p13
                    try clear p130
                    try clear p131
                    try clear p132
                    try clear p133
                    try clear p18
                    try clear p2
                    try clear p20
                    try clear p4
                    try clear p40
                    try clear p45
                    try clear p6
                    try clear p64
                    try clear p7
                    try clear p72
                    try clear p77
                    try clear q1
                    try clear q11
                    try clear q119
                    try clear q12
                    try clear q120
                    try clear q121
                    try clear q125
                    try clear q126
                    try clear q127
                    try clear q128
                    try clear q129
                    try clear q13
                    try clear q130
                    try clear q131
                    try clear q132
                    try clear q133
                    try clear q18
                    try clear q2
                    try clear q20
                    try clear q4
                    try clear q40
                    try clear q45
                    try clear q7
                    try clear q72
                    try clear q77
                    obtain ⟨x13_4, rfl, HA, HK4, HO_6, HO_12, HB⟩ := hrel
                    cases gk with
                    | zero => exact absurd HA.out (by simp [scriptoriumlaw01_RunesJoin.l2])
                    | succ k4 =>
                      have H := HA.out
                      clear HA
                      simp only [scriptoriumlaw01_RunesJoin.l2] at H
                      by_cases c101 : x13_4 < (t134.length : Int)
                      · rw [if_pos c101] at H
                        have c101b0 : decide (x13_4 < (t134.length : Int)) = true := decide_eq_true c101
                        clear c101
                        by_cases c102 : 0 ≤ x13_4
                        · rw [if_pos c102] at H
                          have c102b0 : decide (0 ≤ x13_4) = true := decide_eq_true c102
                          clear c102
                          by_cases c103 : x13_4 < (x6_1.length : Int)
                          · rw [if_pos c103] at H
                            have c103b0 : decide (x13_4 < (x6_1.length : Int)) = true := decide_eq_true c103
                            clear c103
                            by_cases c104 : (rdOf ByteArray.empty t134 x13_4).toList = (rdOf ByteArray.empty x6_1 x13_4).toList
                            · rw [if_pos c104] at H
                              have c104b0 : ((rdOf ByteArray.empty t134 x13_4).toList == (rdOf ByteArray.empty x6_1 x13_4).toList) = true := beq_iff_eq.mpr c104
                              have c104b1 : ((rdOf ByteArray.empty t134 x13_4).toList != (rdOf ByteArray.empty x6_1 x13_4).toList) = false := bne_eq_false_iff_eq.mpr c104
                              clear c104
                              have H' := Aside0.mk H
                              clear H
                              obtain ⟨Ao105, co105, eo105⟩ := Kd.R_slice HO_12.out
                              subst eo105
                              have p137 : 0 ≤ (x13_4 : Int) := of_decide_eq_true (by first | (with_reducible assumption) | assumption)
                              have q137 : x13_4 < (t134.length : Int) := of_decide_eq_true (by first | (with_reducible assumption) | assumption)
                              obtain ⟨ad137, e137, hx137_0⟩ := Kd.at_string (Kd.R_reads' HO_12.out).2.2 x13_4 p137 q137
                              cases e137
                              replace p137 := eq_true p137
                              replace q137 := eq_true q137
                              obtain ⟨Ao106, co106, eo106⟩ := Kd.R_slice HO_6.out
                              subst eo106
                              have p138 : 0 ≤ (x13_4 : Int) := of_decide_eq_true (by first | (with_reducible assumption) | assumption)
                              have q138 : x13_4 < (x6_1.length : Int) := of_decide_eq_true (by first | (with_reducible assumption) | assumption)
                              obtain ⟨ad138, e138, hx138_0⟩ := Kd.at_string (Kd.R_reads' HO_6.out).2.2 x13_4 p138 q138
                              cases e138
                              replace p138 := eq_true p138
                              replace q138 := eq_true q138
                              go_wp2
                              repeat (go_quiet (fail); try go_wp2)
                              go_roundg k4
                              case measure => have := HK1.out; have := HJ4.out; have := HJ94.out; have := HK4.out; omega
                              case rel => exact ⟨(wrap64 (x13_4 + 1)), (by first | rfl | (simp; done) | (simp [*]; done)), H', ⟨by have := HK1.out; have := HJ4.out; have := HJ94.out; have := HK4.out; omega⟩, ⟨by (with_reducible repeat (first | apply Kd.R_alloc | apply Kd.R_drewN | apply Kd.R_drew)); exact HO_6.out⟩, ⟨by (with_reducible repeat (first | apply Kd.R_alloc | apply Kd.R_drewN | apply Kd.R_drew)); exact HO_12.out⟩, ⟨by repeat (first | (with_reducible first | exact HB.out | apply below_alloc | apply pw_below_drewN | apply below_drew1) | exact HB.out)⟩⟩
                            · rw [if_neg c104] at H
                              have c104b0 : ((rdOf ByteArray.empty t134 x13_4).toList == (rdOf ByteArray.empty x6_1 x13_4).toList) = false := beq_eq_false_iff_ne.mpr c104
                              have c104b1 : ((rdOf ByteArray.empty t134 x13_4).toList != (rdOf ByteArray.empty x6_1 x13_4).toList) = true := bne_iff_ne.mpr c104
                              obtain rfl := Option.some.inj H
                              obtain ⟨Ao107, co107, eo107⟩ := Kd.R_slice HO_12.out
                              subst eo107
                              have p137 : 0 ≤ (x13_4 : Int) := of_decide_eq_true (by first | (with_reducible assumption) | assumption)
                              have q137 : x13_4 < (t134.length : Int) := of_decide_eq_true (by first | (with_reducible assumption) | assumption)
                              obtain ⟨ad137, e137, hx137_0⟩ := Kd.at_string (Kd.R_reads' HO_12.out).2.2 x13_4 p137 q137
                              cases e137
                              replace p137 := eq_true p137
                              replace q137 := eq_true q137
                              obtain ⟨Ao108, co108, eo108⟩ := Kd.R_slice HO_6.out
                              subst eo108
                              have p138 : 0 ≤ (x13_4 : Int) := of_decide_eq_true (by first | (with_reducible assumption) | assumption)
                              have q138 : x13_4 < (x6_1.length : Int) := of_decide_eq_true (by first | (with_reducible assumption) | assumption)
                              obtain ⟨ad138, e138, hx138_0⟩ := Kd.at_string (Kd.R_reads' HO_6.out).2.2 x13_4 p138 q138
                              cases e138
                              replace p138 := eq_true p138
                              replace q138 := eq_true q138
                              go_wp2
                              repeat (go_quiet (fail); try go_wp2)
                              go_ret
                              exact ⟨by first | rfl | (simp [errW_none, errW_some] <;> rfl) | (simp [*, errW_none, errW_some] <;> rfl), by repeat (first | (with_reducible first | exact HB.out | apply below_alloc | apply pw_below_drewN | apply below_drew1) | exact HB.out)⟩
                          · rw [if_neg c103] at H
                            exact absurd H (by simp)
                        · rw [if_neg c102] at H
                          exact absurd H (by simp)
                      · rw [if_neg c101] at H
                        have c101b0 : decide (x13_4 < (t134.length : Int)) = false := decide_eq_false c101
                        clear c101
                        obtain rfl := Option.some.inj H
                        obtain ⟨Ao109, co109, eo109⟩ := Kd.R_slice HO_12.out
                        subst eo109
                        go_wp2
                        repeat (go_quiet (fail); try go_wp2)
                        go_ret
                        exact ⟨by first | rfl | (simp [errW_none, errW_some] <;> rfl) | (simp [*, errW_none, errW_some] <;> rfl), by repeat (first | (with_reducible first | exact HB.out | apply below_alloc | apply pw_below_drewN | apply below_drew1) | exact HB.out)⟩

end Go.Proofs.YtokmmkeoodgodaaDoor.Pr
