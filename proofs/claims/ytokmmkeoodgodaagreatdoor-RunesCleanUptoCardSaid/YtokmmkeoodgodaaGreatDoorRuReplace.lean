/-
  (*strings.genericReplacer).Replace over the trie of runes.Fold.
-/
import Derived.Test.YtokmmkeoodgodaaGreatDoorRuWrite
namespace Go.Proofs.YtokmmkeoodgodaaGreatDoor
open Go.RowKit Go.Lib Go.Proofs.YtokmmkeoodgodaaGreatDoorW.PrintWords

theorem slice_str {B b : Nat} {l : List UInt8} {w : World} (h : BufAt B b (byteCells l) w) : ∃ v, w.cell? ⟨b, 0, none⟩ = some v ∧ (∃ p c, v = .slice p l.length c) ∧ (convert 158 9 v).run Tryz.prog w = .ok (.string (str8 l)) w := by
  obtain ⟨hB, v, hb, hown, hne⟩ := h
  refine ⟨v, by rw [Lib.cell_of_heap hb]; rfl, ?_, ?_⟩
  · rcases hown.2 with ⟨rfl, h0⟩ | ⟨g, cap, cur, fz, rfl, _⟩
    · rw [byteCells_length] at h0
      exact ⟨none, 0, by rw [h0]⟩
    · exact ⟨_, _, by rw [byteCells_length]⟩
  · rcases hown.2 with ⟨rfl, h0⟩ | ⟨g, cap, cur, fz, rfl, _⟩
    · rw [byteCells_length] at h0
      have : l = [] := List.length_eq_zero_iff.1 h0
      subst this
      exact run_convert_bytes_nil (P := Tryz.prog) w _ _ Tryz.underlying158 Tryz.underlying5 0 0 _ Tryz.underlying9
    · rw [byteCells_length]
      refine run_convert_bytes_back w _ _ _ ⟨g, 0, none⟩ cap l Tryz.underlying158 Tryz.underlying5 Tryz.underlying9 ?_
      intro j hj
      exact hown.cells rfl j _ (by simp [byteCells, hj])

set_option maxHeartbeats 4000000 in
set_option maxRecDepth 1000000 in
theorem trie_replace (g t n1 n2 n3 n4 : Nat) (s : ByteArray) (w : World) (hT : Trie w g t n1 n2 n3 n4) (hg : g < w.heap.size) (ht : t < w.heap.size) (h1 : n1 < w.heap.size) (h2 : n2 < w.heap.size) (h3 : n3 < w.heap.size) (h4 : n4 < w.heap.size)
    (hz : s.size ≤ 268435456) :
    Calls Tryz.prog 109 #[.pointer (some ⟨g, 0, none⟩), .string s] w fun e w' => e = .returned (.string (str8 (Ru.replL s.data.toList))) ∧ Below w.heap.size w w' := by
  obtain ⟨i0, hi, hz0, hz1, hz2⟩ := info_parts info_u8
  obtain ⟨w1, hrun, r1, r2⟩ := run_make_own (P := Tryz.prog) w w.heap.size 158 5 i0 (.int .u8 0) 1 Tryz.underlying158 hi hz0 hz1 .i64 .i64 s.size (by rw [hz2]; omega) (by unfold maxLen; omega) (Nat.le_refl _)
  have hlt : w.heap.size < w1.heap.size := (r1.lt w.heap.size rfl).2
  have hb0 : Below w.heap.size w w1 := (Below.refl _ w).grown r2 (Nat.le_refl _) (fun _ h => by cases h)
  have hb1 : Below w.heap.size w (w1.alloc (.cells #[.slice (some ⟨w.heap.size, 0, none⟩) 0 s.size] 158)) := hb0.alloc (by omega) _
  have hBw : w.heap.size ≤ (w1.alloc (.cells #[.slice (some ⟨w.heap.size, 0, none⟩) 0 s.size] 158)).heap.size := hb1.size
  have hBuf : BufAt w.heap.size w1.heap.size [] (w1.alloc (.cells #[.slice (some ⟨w.heap.size, 0, none⟩) 0 s.size] 158)) := by
    refine ⟨by omega, _, heap_alloc_new w1 _, World.ownsRowF_of (r1.alloc _), ?_⟩
    simp only [Value.ownBlock, ne_eq, Option.some.injEq]; omega
  go_enter Tryz.func109, Tryz.ntmps109
  go_wp2_with (go_at_call 110; refine (trie_write w.heap.size w1.heap.size g t n1 n2 n3 n4 s _ (hT.below hg ht h1 h2 h3 h4 hb1) hg ht h1 h2 h3 h4 hBuf hz hBw).mono ?_; rintro e w2 ⟨⟨v, rfl⟩, hB2, hb2⟩; obtain ⟨v2, hv, ⟨p2, c2, rfl⟩, hcv⟩ := slice_str hB2)
  go_ret
  exact ⟨rfl, hb1.trans hb2⟩
end Go.Proofs.YtokmmkeoodgodaaGreatDoor
