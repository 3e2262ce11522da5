/-
  RunesClean: bytes become a text of right characters, and all that is right stays: the walk.
-/
import Derived.Test.YtokmmkeoodgodaaGreatDoorRuPureZ
import Derived.Test.YtokmmkeoodgodaaGreatDoorRuConv
namespace Go.Proofs.YtokmmkeoodgodaaGreatDoor
open Go.RowKit Go.Proofs.YtokmmkeoodgodaaGreatDoorW.PrintWords Go.Proofs.YtokmmkeoodgodaaGreatDoorW.PrintMore Pr
set_option linter.unusedSimpArgs false
set_option linter.unusedVariables false


set_option maxHeartbeats 4000000 in
set_option maxRecDepth 1000000 in
theorem cleanlaw_calls (A0 : Option Addr) (c0 : Nat) (l0 : List Int) (w : World) (hC : Kd.C (Kd.int .u8) w A0 l0.length l0) (hc : l0.length ≤ c0) (hz : l0.length ≤ 1048576) (hT : TT w) :
    Calls Tryz.prog 3 #[.slice A0 l0.length c0] w fun e w' => e = .returned (.bool true) ∧ Below w.heap.size w w' := by
  obtain ⟨kr, hkr⟩ := ref_clean_f l0 (by omega)
  have HSh := Lib.hid (shown_calls w hT)
  have hcl : (Ru.cleanL (bytes8 l0)).length ≤ 4194304 := by
    have h1 := Ru.flat_len ((Ru.runes (bytes8 l0)).map Ru.fix)
    have h2 := (Ru.runes_len _ (bytes8 l0) (Nat.le_refl _)).1
    have h3 : (bytes8 l0).length = l0.length := by simp [bytes8]
    rw [List.length_map] at h1
    unfold Ru.cleanL
    omega
  have hcv := fun (W : World) (s : ByteArray) => Go.Lib.run_convert_string_bytes (P := Tryz.prog) W 9 22 5 s Tryz.underlying9 Tryz.underlying22 Tryz.underlying5
  have HCC := Ru.clean_clean (bytes8 l0)
  have HWh := Ru.whole_clean (bytes8 l0)
  go_enter Tryz.func3, Tryz.ntmps3
  go_wp2_with fail
  refine HSh.out.mono ?_
  rintro e w1 ⟨rfl, hb1⟩
  have HO := own_lit w1 w.heap.size 5 .u8 [] hb1.size (by decide)
  have hb1' := hb1.alloc hb1.size (.cells (nums .u8 []).toArray 5)
  have HR := Lib.hid (Kd.reads_of_C (d := (0 : Int)) (Kd.C_below hC hb1'))
  have HO := Lib.hid HO
  have HB1 := Lib.hid hb1'
  clear hb1'
  go_wp2_with (at_builtin; refine print_append_row w.heap.size rfl (.tmp 10) (.tmp 11) 22 5 .u8 1 rfl Tryz.underlying22 info_u8 (by decide) _ [] l0 A0 l0.length c0 rfl rfl HO.out HR.out HB1.out (by rw [World.size_alloc]; exact Nat.le_succ_of_le hb1.size) (by simp; omega) ?_; intro v1 w2 hown hb2 _ _; have HOwn := Lib.hid hown; clear hown)
  have hown := HOwn.out
  clear HOwn
  rw [List.nil_append] at hown
  obtain ⟨A1, c1, rfl, hrd⟩ := own_reads hown
  have hC1 : Kd.C (Kd.int .u8) w2 A1 l0.length l0 := Kd.C_of_reads (d := (0 : Int)) (h1 := fun _ => rfl) hrd
  clear HO HR HB1 hown hb1 hrd
  refine (clean_any A1 c1 l0 w2 hC1 (by omega)).mono ?_
  rintro e w3 ⟨rfl, hb3⟩
  have hb13 := hb2.trans (hb3.mono hb2.size)
  clear hb2
  have hSs : (str8 (Ru.cleanL (bytes8 l0))).size ≤ 4194304 := by rw [str8_size]; exact hcl
  have HRef := Lib.hid (fun (W : World) (h : Kd.C (Kd.int .u8) W A0 l0.length l0) => scriptoriumref01_Clean.calls kr A0 c0 l0 _ W h hc hkr)
  have HCv := Lib.hid (fun (W : World) (c : Nat) => clean_conv (str8 (Ru.cleanL (bytes8 l0))) W c (by omega))
  rw [str8_list, HCC] at HCv
  clear hkr HCC
  have hSl := str8_list (Ru.cleanL (bytes8 l0))
  rw [← hSl] at HWh
  clear hSl hcl
  generalize str8 (Ru.cleanL (bytes8 l0)) = S at *
  have HWh0 := Lib.hid HWh
  clear HWh
  go_wp2_with fail
  go_loopw [6] (fun i wr => ∃ pos : Nat, i = .int .i64 pos ∧ pos ≤ S.size ∧ Ru.Whole (S.data.toList.drop pos) ∧ Below w2.heap.size w2 wr ∧ Below w.heap.size w wr) (fun i _ => S.size - (intOf i).toNat)
  case atStart => exact ⟨0, rfl, Nat.zero_le _, by rw [List.drop_zero]; exact HWh0.out, hb3, hb13⟩
  case round =>
    clear hb3 hb13 HWh0
    obtain ⟨pos, rfl, hp, hWh, hb3, hb⟩ := hrel
    by_cases hlt : pos < S.size
    · have hd : S.data.toList.drop pos ≠ [] := by
        intro h0
        have := congrArg List.length h0
        rw [List.length_drop, Ru.size_list] at this; simp at this; omega
      obtain ⟨g1, g2, g3⟩ := hWh.step hd
      have hF := first_f 0 (S.extract pos S.size) (by rw [cut_size]; omega) (by rw [cut_size]; omega)
      rw [cut_list] at hF
      have hpd := Ru.dec_pos _ hd
      rw [List.length_drop, Ru.size_list] at hpd
      have hok := Ru.dec_ok (S.data.toList.drop pos)
      rw [List.drop_drop] at g3
      unfold pairI at hF
      generalize (Ru.dec (S.data.toList.drop pos)).1 = r at *
      generalize (Ru.dec (S.data.toList.drop pos)).2 = n at *
      have HFi := Lib.hid (fun (W : World) => scriptoriumref01_First.calls (0 + 8) _ _ _ W hF)
      have b0 : ((r : Int) == 0) = false := by rw [beq_eq_false_iff_ne]; omega
      have HW3 := Lib.hid g3
      have HG2 := Lib.hid g2
      clear hF g1 g2 g3 hd hWh hok
      go_wp2_with fail
      refine (HFi.out _).mono ?_
      rintro e w4 ⟨rfl, hdr⟩
      have hb' := hb.trans (hdr.below.mono hb.size)
      have hb3' := hb3.trans (hdr.below.mono hb3.size)
      clear hdr hb hb3
      by_cases hr : r = 65533
      · have hn : ((n : Int) == 1) = false := by
          rw [beq_eq_false_iff_ne]
          intro h
          exact HG2.out ⟨hr, by omega⟩
        subst hr
        go_wp2_with fail
        go_roundw
        case rel => exact ⟨pos + n, by go_num, by omega, HW3.out, hb3', hb'⟩
        case measure => simp [intOf]; omega
      · have hr' : ((r : Int) == 65533) = false := by rw [beq_eq_false_iff_ne]; omega
        go_wp2_with fail
        go_roundw
        case rel => exact ⟨pos + n, by go_num, by omega, HW3.out, hb3', hb'⟩
        case measure => simp [intOf]; omega
    · obtain rfl : pos = S.size := by omega
      have hC0 := Kd.C_below hC hb
      go_wp2_with fail
      refine (HRef.out _ hC0).mono ?_
      rintro e w4 ⟨rfl, hb4⟩
      have hb' := hb.trans (hb4.mono hb.size)
      have hb3' := hb3.trans (hb4.mono hb3.size)
      clear hb4 hb hb3 hC0
      go_wp2_with fail
      refine (HCv.out _ _).mono ?_
      rintro e w5 ⟨rfl, hb5⟩
      have hbf := hb'.trans (hb5.mono hb'.size)
      have hbf3 := hb3'.trans (hb5.mono hb3'.size)
      have hs0 := Kd.C_string (P := Tryz.prog) (A := A0) (c := c0) Tryz.underlying22 Tryz.underlying5 Tryz.underlying9 (Kd.C_below hC hbf)
      have hs1 := Kd.C_string (P := Tryz.prog) (A := A1) (c := c1) Tryz.underlying22 Tryz.underlying5 Tryz.underlying9 (Kd.C_below hC1 hbf3)
      clear hb' hb3' hb5
      go_wp2_with fail
      go_ret
      exact ⟨rfl, hbf⟩
end Go.Proofs.YtokmmkeoodgodaaGreatDoor
