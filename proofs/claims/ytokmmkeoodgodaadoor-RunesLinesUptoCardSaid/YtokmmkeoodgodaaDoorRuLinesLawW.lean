/-
  RunesLines: the walk. A text is its lines, and what came out is its owner's.
-/
import Derived.Test.YtokmmkeoodgodaaDoorRuPureA
import Derived.Deep.QuietTactic
import Derived.BigQuiet
namespace Go.Proofs.YtokmmkeoodgodaaDoor
open Go.RowKit Go.Lib Go.Proofs.YtokmmkeoodgodaaDoorW.PrintWords Go.Proofs.YtokmmkeoodgodaaDoorW.PrintMore
set_option linter.unusedSimpArgs false
set_option linter.unusedVariables false

theorem set_tail {α : Type} {L l : List α} {d x : α} {k : Nat} (h : ∀ j, k ≤ j → j < L.length → l.getD j d = L.getD j d) : ∀ j, k + 1 ≤ j → j < L.length → (l.set k x).getD j d = L.getD j d := by
  intro j hj hl
  rw [← h j (by omega) hl]
  simp only [List.getD_eq_getElem?_getD]
  rw [List.getElem?_set_ne (by omega)]

set_option maxHeartbeats 4000000 in
set_option maxRecDepth 1000000 in
theorem lineslaw_calls (s : ByteArray) (hs : s.size ≤ 268435456) (w : World) (hT : TT w) :
    Calls Tryd.prog 3 #[.string s] w fun e w' => e = .returned (.bool true) ∧ Below w.heap.size w w' := by
  obtain ⟨kr, hkr⟩ := ref_lines_f s hs
  have HSh := Lib.hid (shown_calls w hT)
  have HRef := Lib.hid (fun W => Pr.scriptoriumref01_Lines.calls kr s _ W hkr)
  have HLn := Lib.hid (fun W => lines_any s hs W)
  have hlen : ((Ru.linesL s.data.toList).map str8).length ≤ 268435456 := by
    rw [List.length_map]
    have := Ru.lines_length s.data.toList
    rw [Ru.size_list] at this; omega
  clear hkr
  generalize (Ru.linesL s.data.toList).map str8 = L at *
  have hne : ((L.length : Int) != (L.length : Int)) = false := bne_self_eq_false _
  go_enter Tryd.func3, Tryd.ntmps3
  go_wp2_with fail
  refine HSh.out.mono ?_
  rintro e w1 ⟨rfl, hb1⟩
  go_wp2_with fail
  refine (HRef.out w1).mono ?_
  rintro e w2 ⟨v4, rfl, ho4, hb2⟩
  have hb12 := hb1.trans (hb2.mono hb1.size)
  obtain ⟨A4, c4, rfl⟩ := Kd.R_slice ho4
  have H4 : Kd.R Kd.string 9 w2 w1.heap.size (fun k => k < w2.heap.size) (.slice A4 L.length c4) L := Kd.R_mono (Kd.R_bound ho4) (fun k hk => hk.2.2.1)
  clear ho4 hb1 hb2
  go_wp2_with fail
  go_loopw [5] (fun i wr => ∃ x : Nat, x ≤ 2 ∧ i = .int .i64 x ∧ Kd.R Kd.string 9 wr w1.heap.size (fun k => k < w2.heap.size) (.slice A4 L.length c4) L ∧ w2.heap.size ≤ wr.heap.size ∧ Below w.heap.size w wr) (fun i _ => 2 - (intOf i).toNat)
  case atStart => exact ⟨0, by omega, rfl, H4, Nat.le_refl _, hb12⟩
  case round =>
    clear H4 hb12
    obtain ⟨x, hx, rfl, H4, hsz, hb⟩ := hrel
    by_cases hlt : x < 2
    · go_wp2_with fail
      refine (HLn.out wr).mono ?_
      rintro e w3 ⟨v6, rfl, ho6, hb3⟩
      have H4' := Kd.R_below H4 hb3
      have hbb := hb.trans (hb3.mono hb.size)
      have hsz3 : w2.heap.size ≤ w3.heap.size := Nat.le_trans hsz hb3.size
      obtain ⟨A6, c6, rfl⟩ := Kd.R_slice ho6
      obtain ⟨B6, hB6⟩ : ∃ B, wr.heap.size = B := ⟨_, rfl⟩
      rw [hB6] at ho6 hsz
      have HB6 := Lib.hid hB6
      have hBw : w.heap.size ≤ B6 := by rw [← hB6]; exact hb.size
      clear H4 hb3 hb hB6
      go_wp2_with fail
      go_loopw [7] (fun i wq => ∃ (k : Nat) (l6 : List ByteArray), k ≤ L.length ∧ i = .int .i64 k ∧ l6.length = L.length ∧ (∀ j, k ≤ j → j < L.length → l6.getD j ByteArray.empty = L.getD j ByteArray.empty) ∧ Kd.R Kd.string 9 wq B6 (fun _ => True) (.slice A6 L.length c6) l6 ∧
        Kd.R Kd.string 9 wq w1.heap.size (fun k => k < w2.heap.size) (.slice A4 L.length c4) L ∧ w2.heap.size ≤ wq.heap.size ∧ Below w.heap.size w wq) (fun i _ => L.length - (intOf i).toNat)
      case atStart => exact ⟨0, L, Nat.zero_le _, rfl, rfl, fun _ _ _ => rfl, ho6, H4', hsz3, hbb⟩
      case round =>
        clear H4' hbb hsz3 ho6
        obtain ⟨k, l6, hk, rfl, hl6, hL6, H6, H4, hszq, hbq⟩ := hrel
        by_cases hkl : k < L.length
        · obtain ⟨g6, cap6, e6, hg6, hlt6, -⟩ := Kd.R_form H6 (by omega)
          obtain ⟨g4, cap4, e4, hg4, hlt4, -⟩ := Kd.R_form H4 (by omega)
          obtain ⟨rfl, -, rfl⟩ := Value.slice.inj e6
          obtain ⟨rfl, -, rfl⟩ := Value.slice.inj e4
          rw [← hl6] at H6
          have hk6 : (k : Int) < (l6.length : Int) := by omega
          obtain ⟨x6, f6⟩ := Kd.R_cell ByteArray.empty H6 (k : Int) (by omega) hk6
          obtain ⟨x4, -⟩ := Kd.R_cell ByteArray.empty H4 (k : Int) (by omega) (by omega)
          have hr : rdOf ByteArray.empty l6 (k : Int) = rdOf ByteArray.empty L (k : Int) := by
            unfold rdOf
            rw [Int.toNat_natCast]
            exact hL6 k (Nat.le_refl _) hkl
          rw [hr] at x6
          obtain ⟨HP, HG⟩ := Kd.R_put H6 (k : Int) (⟨#[63]⟩ : ByteArray)
          have hgne : ∀ q, q < w2.heap.size → q ≠ (⟨g6, (k : Int).toNat, none⟩ : Addr).block := fun q hq => by show q ≠ g6; omega
          have HF := Kd.R_far (p := ⟨g6, (k : Int).toNat, none⟩) H4 hgne (.string ⟨#[63]⟩)
          rw [Int.toNat_natCast] at *
          have hbn : Below w.heap.size w (wr.setCell ⟨g6, k, none⟩ (.string ⟨#[63]⟩)) := hbq.setCell (by show w.heap.size ≤ g6; omega) _
          generalize rdOf ByteArray.empty L (k : Int) = X at *
          have HT6 := Lib.hid (set_tail (x := (⟨#[63]⟩ : ByteArray)) hL6)
          have HP' := Lib.hid HP
          have HF' := Lib.hid HF
          have HL6 := Lib.hid hl6
          clear hL6 HP HF H6 H4 hr e6 e4 hl6
          go_wp2_with fail
          go_quiet (fail)
          go_wp2_with fail
          go_roundw
          case rel =>
            refine ⟨k + 1, l6.set k ⟨#[63]⟩, by omega, by go_num, by rw [List.length_set]; exact HL6.out, HT6.out, ?_, ?_, ?_, ?_⟩
            · have h := Kd.R_drewN HP'.out nq
              rw [HL6.out] at h
              exact h
            · exact Kd.R_drewN HF'.out nq
            · rw [World.size_setCell]; exact hszq
            · exact pw_below_drewN hbn nq
          case measure => simp [intOf]; omega
        · obtain rfl : k = L.length := by omega
          clear hL6
          go_wp2_with fail
          go_roundw
          case rel => exact ⟨x + 1, by omega, by go_num, H4, hszq, hbq⟩
          case measure => simp [intOf]; omega
    · obtain rfl : x = 2 := by omega
      go_wp2_with fail
      go_ret
      exact ⟨rfl, hb⟩
end Go.Proofs.YtokmmkeoodgodaaDoor
