/-
  A VARIABLE OF strings.appendSliceWriter that holds given bytes, and what its method WriteString does.
-/
import Derived.Test.YtokmmkeoodgodaaGreatDoorRuTrie
import Derived.Lib.FrozenHead2
import Derived.Shelf.Strings.BuilderK
namespace Go.Proofs.YtokmmkeoodgodaaGreatDoor
open Go.RowKit Go.Lib Go.Proofs.YtokmmkeoodgodaaGreatDoorW.PrintWords

/-- block b is the variable; it holds a row of its own with the bytes bs; both lie at B or above -/
def BufAt (B b : Nat) (bs : List Value) (w : World) : Prop :=
  B ≤ b ∧ ∃ v, w.heap[b]? = some (.cells #[v] 158 (0, 0)) ∧ w.ownsRowF B 5 1 v bs.length bs ∧ v.ownBlock ≠ some b

theorem BufAt.put {B b : Nat} {v v' : Value} {bs' : List Value} {w : World} (hB : B ≤ b) (hb : w.heap[b]? = some (.cells #[v] 158 (0, 0))) (hown : w.ownsRowF B 5 1 v' bs'.length bs') :
    BufAt B b bs' (w.setCell ⟨b, 0, none⟩ v') := by
  have hne := ownBlock_neF hown hb (by decide)
  refine ⟨hB, v', ?_, ?_, hne⟩
  · simp [World.setCell, Array.getElem?_modify, hb]
  · exact hown.kept (row := some b) ⟨rfl, rfl, rfl, by simp [World.setCell], fun k _ hk => Below.heap_setCell _ _ _ _ (fun e => hk (by simp [e]))⟩ (Or.inr hne)

theorem BufAt.drewN {B b : Nat} {bs : List Value} {w : World} (h : BufAt B b bs w) (n : Nat) : BufAt B b bs (w.drewN n) := by
  induction n with
  | zero => exact h
  | succ n ih => exact ih

theorem info_u8 : (Tryz.prog.info? 5).map (fun i => (i.zero, i.size, i.bytes)) = some (some (.int .u8 0), 1, 1) := by kernel_rfl

set_option maxHeartbeats 2000000 in
set_option maxRecDepth 1000000 in
theorem buf_write (B b : Nat) (bs : List Value) (s : ByteArray) (w : World) (h : BufAt B b bs w) (hlen : bs.length + s.size ≤ 140737488355328) (hBw : B ≤ w.heap.size) :
    Calls Tryz.prog 126 #[.pointer (some ⟨b, 0, none⟩), .string s] w fun e w' => e = .returned (.tuple #[.int .i64 s.size, .nilIface]) ∧ BufAt B b (bs ++ Lib.strCells s) w' ∧ Below B w w' := by
  obtain ⟨i0, hi, hz0, hz1, hz2⟩ := info_parts info_u8
  obtain ⟨hB, v, hbk, hown, hne⟩ := h
  obtain ⟨ao0, n0, cap0, rfl⟩ : ∃ ao n' cap, v = .slice ao n' cap := by
    rcases hown.2 with ⟨hv, _⟩ | ⟨g, cap, cur, fz, hv, _⟩
    · exact ⟨_, _, _, hv⟩
    · exact ⟨_, _, _, hv⟩
  have c0 : w.cell? ⟨b, 0, none⟩ = some (.slice ao0 n0 cap0) := by rw [Lib.cell_of_heap hbk]; rfl
  go_enter Tryz.func126, Tryz.ntmps126
  go_wp2_with ((with_reducible refine gate_builtin (b := .append) (xs := #[.tmp 9, .tmp 10]) rfl ?_); at_builtin; go_must (refine Lib.wpList_append_own_stringF _ rfl _ _ 158 9 rfl B 5 i0 Tryz.underlying158 Tryz.underlying9 hi hz0 hz1 hz2 _ _ _ rfl hown s rfl ?c3 ?c4 ?c5 ?_))
  case c3 => unfold maxLen; omega
  case c4 => omega
  case c5 => omega
  intro v' w2 hown' hgrow _
  have hlt : b < w.heap.size := (Array.getElem?_eq_some_iff.1 hbk).1
  have hb2 : w2.heap[b]? = some (.cells #[.slice ao0 n0 cap0] 158 (0, 0)) := by
    rw [hgrow.block b hlt (fun e => hne e.symm)]
    exact hbk
  have d0 : w2.cell? ⟨b, 0, none⟩ = some (.slice ao0 n0 cap0) := by rw [Lib.cell_of_heap hb2]; rfl
  have f1 : w2.frozen? ⟨b, 0, none⟩ = false := Lib.frozen_of_heap hb2 0
  obtain ⟨ao, n', cap, rfl⟩ : ∃ ao n' cap, v' = .slice ao n' cap := by
    rcases hown'.2 with ⟨hv, _⟩ | ⟨g, cap, cur, fz, hv, _⟩
    · exact ⟨_, _, _, hv⟩
    · exact ⟨_, _, _, hv⟩
  go_wp2
  go_ret2
  refine ⟨rfl, ?_, ?_⟩
  · exact BufAt.put hB hb2 (bs' := bs ++ Lib.strCells s) (by simpa [Lib.strCells_length] using hown')
  · exact ((Below.refl B w).grown hgrow (by omega) (fun k hk => (hown.lt k hk).1)).setCell (p := ⟨b, 0, none⟩) hB _
end Go.Proofs.YtokmmkeoodgodaaGreatDoor
