/-
  runes.Lines AT EVERY TEXT up to 2^28 bytes: it hands back a new row that holds just the text's lines.
-/
import Derived.Test.YtokmmkeoodgodaaGreatDoorRuIndexAny
import Derived.Test.YtokmmkeoodgodaaGreatDoorWWords
import Derived.Test.YtokmmkeoodgodaaGreatDoorWLast
import Derived.Test.YtokmmkeoodgodaaGreatDoorWMore
import Derived.Deep.AppendLies
import Derived.Lib.Strings
namespace Go.Proofs.YtokmmkeoodgodaaGreatDoor
open Go.RowKit Go.Lib Go.Proofs.YtokmmkeoodgodaaGreatDoorW.PrintWords Go.Proofs.YtokmmkeoodgodaaGreatDoorW.PrintLast Go.Proofs.YtokmmkeoodgodaaGreatDoorW.PrintMore
theorem info_string : (Tryz.prog.info? 9).map (fun i => (i.zero, i.size, i.bytes)) = some (some (.string ⟨#[]⟩), 1, 16) := by kernel_rfl

theorem list_str (s : ByteArray) : str8 s.data.toList = s := by unfold str8; simp
theorem extract_list (s : ByteArray) (a b : Nat) : s.extract a b = str8 (Ru.pc s.data.toList a b) := by
  rw [← Ru.extract_pc, list_str]
theorem toList_eq (s : ByteArray) : s.toList = s.data.toList := Lib.toList_data s

theorem prefix_crlf (c : UInt8) (t : List UInt8) : Lib.hasPrefix (c :: t) [13, 10] = decide (c = 13 ∧ t.head? = some 10) := by
  unfold Lib.hasPrefix
  cases t with
  | nil => simp [List.isPrefixOf]
  | cons x t =>
    simp only [List.isPrefixOf, Bool.and_true, List.head?_cons, Option.some.injEq]
    by_cases h1 : c = 13
    · by_cases h2 : x = 10
      · subst h1 h2; rfl
      · rw [decide_eq_false (fun h => h2 h.2)]
        simp only [Bool.and_eq_false_imp, beq_iff_eq, beq_eq_false_iff_ne]
        exact fun _ e => h2 e.symm
    · rw [decide_eq_false (fun h => h1 h.1)]
      simp only [Bool.and_eq_false_imp, beq_iff_eq]
      exact fun e => absurd e.symm h1

set_option maxHeartbeats 8000000 in
set_option maxRecDepth 1000000 in
theorem lines_any (s : ByteArray) (hs : s.size ≤ 268435456) (w : World) :
    Calls Tryz.prog 18 #[.string s] w fun e w' => ∃ v0_ : Value, e = .returned (v0_) ∧ Kd.R Kd.string 9 w' w.heap.size (fun _ => True) v0_ ((Ru.linesL s.data.toList).map str8) ∧ Below w.heap.size w w' := by
  obtain ⟨RES, hRES⟩ : ∃ R, (Ru.linesL s.data.toList).map str8 = R := ⟨_, rfl⟩
  rw [hRES]
  go_enter Tryz.func18, Tryz.ntmps18
  go_wp2
  go_loopg [0, 3] s.size (fun gk s0 v wx => ∃ (s' : ByteArray) (acc : List ByteArray), s0 = .string s' ∧ acc ++ (Ru.linesL s'.data.toList).map str8 = RES ∧ s'.size ≤ gk ∧ s'.size + acc.length ≤ s.size ∧
    Kd.R Kd.string 9 wx w.heap.size (fun _ => True) v acc ∧ Below w.heap.size w wx)
  case atStart => exact ⟨s, [], rfl, by simpa using hRES, by omega, by simp, Kd.R_nil _ _ _ _ _, Below.refl _ _⟩
  case round =>
    clear hRES
    obtain ⟨s', acc, rfl, hacc, hgk, hlen, HO, hbw⟩ := hrel
    have HA := Lib.hid hacc
    clear hacc
    by_cases h0 : s'.size = 0
    · have hnil : s'.data.toList = [] := List.length_eq_zero_iff.1 (by rw [Ru.size_list]; exact h0)
      have c1 : (s'.toList == ([] : List UInt8)) = true := by rw [toList_eq, hnil]; rfl
      have c2 : (s'.toList != ([] : List UInt8)) = false := by rw [toList_eq, hnil]; rfl
      have c3 : s'.toList = [] := by rw [toList_eq, hnil]
      have e := HA.out
      rw [hnil, Ru.lines_nil, List.map_nil, List.append_nil] at e
      have HE := Lib.hid e
      clear e hnil h0
      go_wp2
      go_ret
      exact ⟨_, rfl, by rw [← HE.out]; exact HO, hbw⟩
    · have hne : s'.data.toList ≠ [] := by intro h; apply h0; rw [← Ru.size_list, h]; rfl
      have c1 : (s'.toList == ([] : List UInt8)) = false := by rw [toList_eq]; exact beq_eq_false_iff_ne.2 hne
      have c2 : (s'.toList != ([] : List UInt8)) = true := by rw [toList_eq]; exact bne_iff_ne.2 hne
      obtain ⟨g, rfl⟩ : ∃ g, gk = g + 1 := ⟨gk - 1, by omega⟩
      have hI := fun W => index_any s' (by omega) W
      have hbase := hbw.size
      rcases Ru.idx_cases s'.data.toList with ⟨hx, hp⟩ | ⟨p, c, t, hl, hp, hc, hx⟩
      · -- no end is there
        rw [hx] at hI
        have e := HA.out
        rw [Ru.lines_last _ hp hne, List.map_cons, List.map_nil, list_str] at e
        have HE := Lib.hid e
        clear e hx hp hne
        go_wp2_with (first
          | (go_at_call 32; refine (hI _).mono ?_; rintro e w1 ⟨rfl, hb1⟩)
          | ((with_reducible refine gate_builtin (b := .append) (xs := #[.tmp 11, .tmp 13]) rfl ?_); at_builtin; refine Kd.R_append Kd.string (w0 := w) w.heap.size rfl (.tmp 11) (.tmp 13) 34 9 (.string ⟨#[]⟩) 16 rfl Tryz.underlying34 info_string rfl (by decide) (by omega) u3 acc s' [.string s'] (fun _ => True) (fun _ => False) rfl rfl ?aP (fun _ hk => hk.elim) ?aF ?aO ?aB ?aS ?aL ?_; (case aP => exact rfl); (case aB => exact hbw.trans (hb1.mono hbase)); (case aF => exact (fun _ _ => trivial)); (case aO => exact Kd.R_below HO hb1); (case aS => exact Nat.le_trans hbase hb1.size); (case aL => omega); intro v2 w2 ho hb hg hat))
        go_ret
        exact ⟨_, rfl, by rw [← HE.out]; exact ho, hb⟩
      · -- an end behind p
        rw [hx] at hI
        have hpl : p.length < s'.size := by rw [← Ru.size_list, hl]; simp
        have e1 : s'.extract 0 p.length = str8 p := by rw [extract_list, hl]; unfold Ru.pc; simp
        have e2 : s'.extract p.length s'.size = str8 (c :: t) := by
          rw [extract_list, hl]; unfold Ru.pc
          rw [List.drop_left]
          congr 1
          apply List.take_of_length_le
          have := congrArg List.length hl
          rw [Ru.size_list, List.length_append] at this
          omega
        have hsz : s'.size = p.length + (t.length + 1) := by
          have := congrArg List.length hl
          rw [Ru.size_list, List.length_append, List.length_cons] at this
          exact this
        have hb0 : (0 : Int) ≤ (p.length : Int) := by omega
        have hb1' : (p.length : Int) ≤ (s'.size : Int) := by omega
        have hneg : ¬ ((p.length : Int) < 0) := by omega
        have hpre : Lib.hasPrefix (c :: t) [13, 10] = decide (c = 13 ∧ t.head? = some 10) := prefix_crlf c t
        have HA2 := HA.out
        rw [hl] at HA2
        have E1 := Lib.hid e1
        have E2 := Lib.hid e2
        have HSZ := Lib.hid hsz
        clear hsz e1 e2
        go_wp2_with (first
          | (go_at_call 32; refine (hI _).mono ?_; rintro e w1 ⟨rfl, hb1⟩)
          | ((with_reducible refine gate_builtin (b := .append) (xs := #[.tmp 15, .tmp 19]) rfl ?_); at_builtin; refine Kd.R_append Kd.string (w0 := w) w.heap.size rfl (.tmp 15) (.tmp 19) 34 9 (.string ⟨#[]⟩) 16 rfl Tryz.underlying34 info_string rfl (by decide) (by omega) u3 acc (s'.extract 0 p.length) [.string (s'.extract 0 p.length)] (fun _ => True) (fun _ => False) rfl rfl ?aP (fun _ hk => hk.elim) ?aF ?aO ?aB ?aS ?aL ?_; (case aP => exact rfl); (case aB => exact hbw.trans (hb1.mono hbase)); (case aF => exact (fun _ _ => trivial)); (case aO => exact Kd.R_below HO hb1); (case aS => exact Nat.le_trans hbase hb1.size); (case aL => omega); intro v2 w2 ho hb hg hat))
        have hTl : (s'.extract p.length s'.size).data.toList = c :: t := by rw [E2.out, str8_list]
        have hTz : (s'.extract p.length s'.size).size = t.length + 1 := by rw [← Ru.size_list, hTl]; rfl
        generalize hT : s'.extract p.length s'.size = T at *
        have HT := Lib.hid hT
        have ho' : Kd.R Kd.string 9 w2 w.heap.size (fun _ => True) v2 (acc ++ [str8 p]) := by rw [← E1.out]; exact ho
        clear hT ho E2
        have HP := fun W => Tryz.strings_HasPrefix T ⟨#[13, 10]⟩ W
        rw [hTl, show (⟨#[13, 10]⟩ : ByteArray).data.toList = [13, 10] from rfl, hpre] at HP
        obtain ⟨T2, hT2⟩ : ∃ T2, T.extract 1 T.size = T2 := ⟨_, rfl⟩
        have hT2l : T2 = str8 t := by
          rw [← hT2, extract_list, hTl]; unfold Ru.pc
          rw [List.drop_succ_cons, List.drop_zero]
          congr 1
          exact List.take_of_length_le (by omega)
        have hT2z : T2.size = t.length := by rw [← Ru.size_list, hT2l, str8_list]
        have HTl := Lib.hid hTl
        have HT2l := Lib.hid hT2l
        have HTz := Lib.hid hTz
        have h1 : (1 : Int) ≤ (T.size : Int) := by omega
        clear hTl hT2l hTz
        by_cases hcr : c = 13 ∧ t.head? = some 10
        · rw [decide_eq_true hcr] at HP
          obtain ⟨rfl, hh⟩ := hcr
          obtain ⟨t', rfl⟩ : ∃ t', t = 10 :: t' := by
            cases t with
            | nil => simp at hh
            | cons x t' => simp at hh; subst hh; exact ⟨t', rfl⟩
          rw [Ru.lines_crlf p t' hp, List.map_cons] at HA2
          have h2 : (1 : Int) ≤ (T2.size : Int) := by rw [hT2z, List.length_cons]; omega
          obtain ⟨T3, hT3⟩ : ∃ T3, T2.extract 1 T2.size = T3 := ⟨_, rfl⟩
          have hT3l : T3 = str8 t' := by
            rw [← hT3, extract_list, HT2l.out, str8_list]; unfold Ru.pc
            rw [List.drop_succ_cons, List.drop_zero]
            congr 1
            exact List.take_of_length_le (by rw [← Ru.size_list, str8_list]; simp)
          have HT3l := Lib.hid hT3l
          have HT2z := Lib.hid hT2z
          have HAA := Lib.hid HA2
          clear hT3l hT2z HA2 hh hl
          go_wp2_with (go_at_call 33; refine (HP _).mono ?_; rintro e w3 ⟨rfl, hw3⟩; rw [hw3])
          go_roundg g
          case measure => omega
          case rel =>
            have hz3 : T3.size = t'.length := by rw [← Ru.size_list, HT3l.out, str8_list]
            have hz := HSZ.out
            simp only [List.length_cons] at hz
            refine ⟨T3, acc ++ [str8 p], rfl, ?_, by omega, by simp; omega, ho', hb⟩
            rw [← HAA.out, HT3l.out, str8_list]; simp
        · rw [decide_eq_false hcr] at HP
          have hlines : Ru.linesL (p ++ c :: t) = p :: Ru.linesL t := by
            rcases hc with rfl | rfl
            · exact Ru.lines_cr p t hp (fun e => hcr ⟨rfl, e⟩)
            · exact Ru.lines_lf p t hp
          rw [hlines, List.map_cons] at HA2
          have HT2z := Lib.hid hT2z
          have HAA := Lib.hid HA2
          clear hT2z HA2 hl hlines hcr hc
          go_wp2_with (go_at_call 33; refine (HP _).mono ?_; rintro e w3 ⟨rfl, hw3⟩; rw [hw3])
          go_roundg g
          case measure => omega
          case rel =>
            have hz3 := HT2z.out
            have hz := HSZ.out
            refine ⟨T2, acc ++ [str8 p], rfl, ?_, by omega, by simp; omega, ho', hb⟩
            rw [← HAA.out, HT2l.out, str8_list]; simp
end Go.Proofs.YtokmmkeoodgodaaGreatDoor
