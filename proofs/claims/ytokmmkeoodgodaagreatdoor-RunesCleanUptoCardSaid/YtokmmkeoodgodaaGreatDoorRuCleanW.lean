/-
  runes.Clean AT EVERY BYTES up to 2^28: it hands back the text of right characters.
-/
import Derived.Test.YtokmmkeoodgodaaGreatDoorRuLinesW
import Derived.BigCall
namespace Go.Proofs.YtokmmkeoodgodaaGreatDoor
open Go.RowKit Go.Lib Go.Proofs.YtokmmkeoodgodaaGreatDoorW.PrintWords

theorem write_rune (B b : Nat) (bs : List Value) (r : Int) (hr0 : -2147483648 ≤ r) (hr1 : r ≤ 2147483647) (w : World) (h : Lib.IsBuilderF 38 5 B b bs w) (hlen : bs.length + 4 ≤ 140737488355328) (hBw : B ≤ w.heap.size) :
    Calls Tryz.prog 19 #[.pointer (some ⟨b, 0, none⟩), .int .i32 r] w fun e w' => e = .returned (.tuple #[.int .i64 (Lib.runeCells r).length, .nilIface]) ∧ (Lib.BuilderAtF 38 5 B b (.pointer (some ⟨b, 0, none⟩)) (bs ++ Lib.runeCells r) w' ∧ Below B w w' ∧ Lib.OthersKept 5 (some b) w w') :=
  Any.Builder_WriteRune_k { Tryz.lays230 with } Tryz.Builder_Extra_230 B b bs r hr0 hr1 w h hlen hBw

theorem strOf_list (l : List Int) : (strOfNums l).data.toList = bytes8 l := by simp [strOfNums, bytes8]

set_option maxHeartbeats 8000000 in
set_option maxRecDepth 1000000 in
theorem clean_any (A0 : Option Addr) (c0 : Nat) (l0 : List Int) (w : World) (hr0 : Kd.C (Kd.int .u8) w A0 l0.length l0) (hs : l0.length ≤ 268435456) :
    Calls Tryz.prog 7 #[.slice A0 l0.length c0] w fun e w' => e = .returned (.string (str8 (Ru.cleanL (bytes8 l0)))) ∧ Below w.heap.size w w' := by
  have hC1 : Kd.C (Kd.int .u8) (w.alloc (.cells #[.pointer none, .slice none 0 0] 38)) A0 l0.length l0 := Kd.C_below hr0 ((Below.refl _ _).alloc (Nat.le_refl _) _)
  have hcv := Kd.C_string (P := Tryz.prog) (A := A0) (c := c0) Tryz.underlying22 Tryz.underlying5 Tryz.underlying9 hC1
  have hsl := strOf_list l0
  have hz : (strOfNums l0).size = l0.length := by rw [← Ru.size_list, hsl]; simp [bytes8]
  rw [← hsl]
  clear hr0 hC1 hsl
  generalize strOfNums l0 = s at *
  have HZ := Lib.hid hz
  clear hz
  obtain ⟨RES, hRES⟩ : ∃ R, Ru.cleanL s.data.toList = R := ⟨_, rfl⟩
  rw [hRES]
  go_enter Tryz.func7, Tryz.ntmps7
  go_wp2
  go_loopw [] (fun wr => ∃ (pos : Nat) (acc : List UInt8), pos ≤ s.size ∧ Lib.IsBuilderF 38 5 w.heap.size w.heap.size (Lib.byteCells acc) wr ∧ wr.heap[w.heap.size + 1]? = some (.stringIter s pos) ∧ Below w.heap.size w wr ∧ acc ++ Ru.cleanL (s.data.toList.drop pos) = RES ∧ acc.length ≤ 4 * pos) (fun wr => s.size - wr.iterPos (w.heap.size + 1))
  case atStart =>
    refine ⟨0, [], Nat.zero_le _, (Lib.IsBuilderF.of (Lib.fresh_isBuilder 38 5 w)).alloc _, ?_, ((Below.refl _ w).alloc (Nat.le_refl _) _).alloc (by simp) _, by simpa using hRES, by simp⟩
    have := World.iter_heap (w.alloc (.cells #[.pointer none, .slice none 0 0] 38)) s 0
    simpa using this
  case round =>
    clear hRES
    obtain ⟨pos, acc, hps, hI, hit, hbw, hacc, hal⟩ := hrel
    have hsz : w.heap.size + 1 < wr.heap.size := (Array.getElem?_eq_some_iff.1 hit).1
    have hZ := HZ.out
    by_cases hp : pos < s.size
    · have hnx : ∀ ty, (Instr.next (.pointer (some ⟨w.heap.size + 1, 0, none⟩)) true ty).run Tryz.prog wr = _ := fun ty => Lib.run_next_any_at wr (w.heap.size + 1) s pos ty hit hp
      rw [Ru.decode_dec] at hnx
      have hdl : s.data.toList.drop pos ≠ [] := by
        intro h0
        have := congrArg List.length h0
        rw [List.length_drop, Ru.size_list] at this; simp at this; omega
      have hwd := Ru.dec_pos _ hdl
      rw [List.length_drop, Ru.size_list] at hwd
      have hok := Ru.dec_ok (s.data.toList.drop pos)
      have hcl := Ru.cleanL_cons _ hdl
      rw [List.drop_drop] at hcl
      rw [hcl] at hacc
      generalize hr : (Ru.dec (s.data.toList.drop pos)).1 = r at *
      generalize hk : (Ru.dec (s.data.toList.drop pos)).2 = k at *
      have hI2 := hI.iterAt hit (pos + k)
      have hit2 := Lib.iterAt_heap wr (w.heap.size + 1) s pos (pos + k) hit
      have hbw2 := Lib.below_iterAt hbw (k := w.heap.size + 1) (by omega) s (pos + k)
      have hsz2 : w.heap.size ≤ (wr.iterAt (w.heap.size + 1) s (pos + k)).heap.size := by rw [Lib.iterAt_size]; omega
      have HA := Lib.hid hacc
      have hr32 : (r : Int) ≤ 1114111 := by unfold Ru.ok at hok; omega
      have HOK := Lib.hid hok
      clear hcl hr hk hacc hdl hok
      by_cases h0 : r = 0
      · subst h0
        have hb : Lib.byteCells (Ru.enc (Ru.fix 0)) = Lib.runeCells 65533 := by rw [← Lib.byteCells_encodeRune]; rfl
        have HB := Lib.hid hb
        clear hb
        go_wp2_with (go_at_call 19; refine (write_rune w.heap.size w.heap.size _ 65533 (by omega) (by omega) _ hI2 (by rw [Lib.byteCells_length]; omega) hsz2).mono ?_)
        rintro e W1 ⟨rfl, h1, b1, k1⟩
        go_wp2
        go_roundw
        case rel =>
          refine ⟨pos + k, acc ++ Ru.enc (Ru.fix 0), by omega, ?_, k1.iter hit2 (by omega), hbw2.trans b1, by rw [List.append_assoc]; exact HA.out, ?_⟩
          · rw [Lib.byteCells_append, HB.out]; exact Or.inr h1
          · have : (Ru.enc (Ru.fix 0)).length = 3 := rfl
            rw [List.length_append, this]; omega
        case measure =>
          simp only [World.iterPos, k1.iter hit2 (by omega), hit]
          omega
      · have hfx : Ru.fix r = r := by simp [Ru.fix, h0]
        rw [hfx, ← Ru.enc_encodeRune r HOK.out] at HA
        have hb := Lib.byteCells_encodeRune (r : Int)
        generalize encodeRune (r : Int) = E at *
        have hEl : E.length ≤ 4 := by
          have := congrArg List.length hb
          rw [Lib.byteCells_length] at this
          have h4 := Lib.runeCells_le (r : Int)
          omega
        have hb0 : ((r : Int) == 0) = false := by simpa using h0
        have HB := Lib.hid hb
        have HE := Lib.hid hEl
        clear hb hfx hEl
        go_wp2_with (go_at_call 19; refine (write_rune w.heap.size w.heap.size _ r (by omega) (by omega) _ hI2 (by rw [Lib.byteCells_length]; omega) hsz2).mono ?_)
        rintro e W1 ⟨rfl, h1, b1, k1⟩
        go_wp2
        go_roundw
        case rel =>
          refine ⟨pos + k, acc ++ E, by omega, ?_, k1.iter hit2 (by omega), hbw2.trans b1, by rw [List.append_assoc]; exact HA.out, ?_⟩
          · rw [Lib.byteCells_append, HB.out]; exact Or.inr h1
          · have := HE.out
            rw [List.length_append]; omega
        case measure =>
          simp only [World.iterPos, k1.iter hit2 (by omega), hit]
          omega
    · have hnx : ∀ ty, (Instr.next (.pointer (some ⟨w.heap.size + 1, 0, none⟩)) true ty).run Tryz.prog wr = _ := fun ty => Lib.run_next_end_at wr (w.heap.size + 1) s pos ty hit hp
      rw [List.drop_eq_nil_of_le (by rw [Ru.size_list]; omega), Ru.cleanL_nil, List.append_nil] at hacc
      have HA := Lib.hid hacc
      clear hacc
      go_wp2_with (go_at_call 20; refine (Tryz.Builder_String_any_k w.heap.size w.heap.size acc _ hI (by omega)).mono ?_)
      rintro e W1 ⟨rfl, _, b1, _⟩
      go_wp2
      go_ret
      exact ⟨by rw [← HA.out]; rfl, hbw.trans b1⟩
end Go.Proofs.YtokmmkeoodgodaaGreatDoor
