/-
  (*strings.genericReplacer).WriteString and Replace over the trie of runes.Fold: every occurrence of the two keys is replaced.
-/
import Derived.Test.YtokmmkeoodgodaaGreatDoorRuBuf
import Derived.Stop.Asserts
import Derived.Deep.RegionWith
import Derived.LoopN
namespace Go.Proofs.YtokmmkeoodgodaaGreatDoor
open Go.RowKit Go.Lib Go.Proofs.YtokmmkeoodgodaaGreatDoorW.PrintWords

set_option maxRecDepth 1000000 in
theorem get_writer (b : Nat) (w : World) :
    Calls Tryz.prog 111 #[.iface 159 (.pointer (some ⟨b, 0, none⟩))] w fun e w' => e = .returned (.iface 159 (.pointer (some ⟨b, 0, none⟩))) ∧ w' = w := by
  have hta := fun (v : Value) (w : World) => run_typeAssert_hasB (P := Tryz.prog) (t := 159) (asserted := 163) Tryz.underlying163 (by kernel_rfl) v 161 w
  go_enter Tryz.func111, Tryz.ntmps111
  go_wp2
  go_ret
  exact ⟨rfl, rfl⟩

theorem str_cells (s : ByteArray) : strCells s = byteCells s.data.toList := rfl

theorem step_skip {l : List UInt8} {la ii : Nat} {c : UInt8} {u acc RES : List UInt8} (h : l.drop ii = c :: u) (hli : la ≤ ii) (hr : Ru.replL (c :: u) = c :: Ru.replL u)
    (H : acc ++ (l.take ii).drop la ++ Ru.replL (l.drop ii) = RES) : acc ++ (l.take (ii + 1)).drop la ++ Ru.replL (l.drop (ii + 1)) = RES := by
  have hii : ii < l.length := by
    have := congrArg List.length h
    rw [List.length_drop, List.length_cons] at this; omega
  have h1 : l.drop (ii + 1) = u := by rw [← List.drop_drop, h]; rfl
  have h2 : l[ii]? = some c := by rw [← List.head?_drop, h]; rfl
  rw [h1, ← H, h, hr, List.take_add_one, h2, List.drop_append]
  have h3 : (l.take ii).length = ii := by rw [List.length_take]; omega
  rw [h3, Nat.sub_eq_zero_of_le hli]
  simp

theorem step_hit {l : List UInt8} {la ii k : Nat} {key v acc RES : List UInt8} (h : l.drop ii = key ++ v) (hk : key.length = k) (hr : Ru.replL (key ++ v) = 115 :: 115 :: Ru.replL v)
    (H : acc ++ (l.take ii).drop la ++ Ru.replL (l.drop ii) = RES) : (acc ++ (l.take ii).drop la ++ [115, 115]) ++ (l.take (ii + k)).drop (ii + k) ++ Ru.replL (l.drop (ii + k)) = RES := by
  have h1 : l.drop (ii + k) = v := by rw [← List.drop_drop, h, ← hk]; simp
  have h2 : (l.take (ii + k)).drop (ii + k) = [] := List.drop_eq_nil_of_le (by rw [List.length_take]; omega)
  rw [h2, h1, ← H, h, hr]
  simp

theorem step_end {l : List UInt8} {la ii : Nat} {acc RES : List UInt8} (h : ii = l.length)
    (H : acc ++ (l.take ii).drop la ++ Ru.replL (l.drop ii) = RES) : acc ++ (l.take (ii + 1)).drop la ++ Ru.replL (l.drop (ii + 1)) = RES := by
  subst h
  rw [List.take_of_length_le (by omega), List.drop_eq_nil_of_le (i := l.length + 1) (by omega)]
  rw [List.take_of_length_le (by omega), List.drop_eq_nil_of_le (i := l.length) (by omega)] at H
  exact H

/-- the bytes behind a place, with a first one -/
theorem at_byte {s : ByteArray} {i : Nat} {c : UInt8} {u : List UInt8} (h : s.data.toList.drop i = c :: u) : ∃ hi : i < s.size, s[i]'hi = c := by
  have hl := congrArg List.length h
  rw [List.length_drop, Ru.size_list, List.length_cons] at hl
  have hi : i < s.size := by omega
  refine ⟨hi, ?_⟩
  have h1 : s.data.toList[i]? = some c := by
    have := congrArg List.head? h
    rw [List.head?_drop] at this
    exact this
  have h2 : s.data.toList[i]? = some (s[i]'hi) := by
    rw [List.getElem?_eq_getElem (by rw [Ru.size_list]; exact hi)]; rfl
  rw [h2] at h1
  exact Option.some.inj h1

set_option maxHeartbeats 16000000 in
set_option maxRecDepth 1000000 in
theorem trie_write (B b g t n1 n2 n3 n4 : Nat) (s : ByteArray) (w : World) (hT : Trie w g t n1 n2 n3 n4) (hg : g < B) (ht : t < B) (h1 : n1 < B) (h2 : n2 < B) (h3 : n3 < B) (h4 : n4 < B)
    (hB : BufAt B b [] w) (hz : s.size ≤ 268435456) (hBw : B ≤ w.heap.size) :
    Calls Tryz.prog 110 #[.pointer (some ⟨g, 0, none⟩), .iface 159 (.pointer (some ⟨b, 0, none⟩)), .string s] w fun e w' => (∃ v, e = .returned v) ∧ BufAt B b (byteCells (Ru.replL s.data.toList)) w' ∧ Below B w w' := by
  obtain ⟨RES, hRES⟩ : ∃ R, Ru.replL s.data.toList = R := ⟨_, rfl⟩
  rw [hRES]
  have hna : ∀ n w, Sem.run Tryz.prog (nilAhead (n + 1) 159 (.pointer (some ⟨b, 0, none⟩)) "WriteString") w = .ok (some false) w := fun _ _ => by kernel_rfl
  have hmt : ∀ n w, Sem.run Tryz.prog (method (n + 1) 159 (.pointer (some ⟨b, 0, none⟩)) "WriteString") w = .ok (126, .pointer (some ⟨b, 0, none⟩)) w := fun _ _ => by kernel_rfl
  go_enter Tryz.func110, Tryz.ntmps110
  go_wp2_with (go_at_call 111; refine (get_writer b _).mono ?_; rintro e w1 ⟨rfl, hw1⟩; rw [hw1])
  go_loopg [6, 7, 9, 10, 11, 12, 13, 14, 15, 16] (s.size + 1) (fun gk n er last wn pv i _ _ _ _ wx => ∃ (nn wnn : Int) (la ii : Nat) (acc : List UInt8), n = .int .i64 nn ∧ er = .nilIface ∧ last = .int .i64 la ∧ wn = .int .i64 wnn ∧ pv = .bool false ∧ i = .int .i64 ii ∧ la ≤ ii ∧ la ≤ s.size ∧ ii + gk = s.size + 1 ∧ acc.length ≤ la ∧ BufAt B b (byteCells acc) wx ∧ Below B w wx ∧ acc ++ (s.data.toList.take ii).drop la ++ Ru.replL (s.data.toList.drop ii) = RES)
  case atStart =>
    exact ⟨0, 0, 0, 0, [], rfl, rfl, rfl, rfl, rfl, rfl, Nat.le_refl _, Nat.zero_le _, by omega, Nat.le_refl _, hB, Below.refl _ _, by simpa using hRES⟩
  case round =>
    clear hRES hB
    obtain ⟨nn, wnn, la, ii, acc, rfl, rfl, rfl, rfl, rfl, rfl, hli, hls, hgk, hal, hBf, hbw, hres⟩ := hrel
    have T := hT.below hg ht h1 h2 h3 h4 hbw
    have hHR := Lib.hid hres
    clear hres
    have hrp := T.rp
    have hrt := T.rt
    have hsz := T.sz
    have hbs : B ≤ wr.heap.size := Nat.le_trans hBw (by have := hbw.size; omega)
    cases gk with
    | zero =>
      have hle : ¬ ((ii : Int) ≤ (s.size : Int)) := by omega
      by_cases hla : la = s.size
      · subst hla
        go_wp2
        go_ret2
        refine ⟨⟨_, rfl⟩, ?_, hbw⟩
        have := hHR.out
        rw [List.drop_eq_nil_of_le (by rw [List.length_take, Ru.size_list]; omega), List.drop_eq_nil_of_le (by rw [Ru.size_list]; omega), Ru.replL_nil, List.append_nil, List.append_nil] at this
        rw [← this]; exact hBf
      · have hne : ¬ ((la : Int) = (s.size : Int)) := by omega
        have hl2 : (la : Int) ≤ (s.size : Int) := by omega
        have hl0 : 0 ≤ (la : Int) := by omega
        have hLN : (byteCells acc).length + (s.extract la s.size).size ≤ 140737488355328 := by rw [byteCells_length, ByteArray.size_extract]; omega
        have hCC : byteCells acc ++ strCells (s.extract la s.size) = byteCells RES := by
          have := hHR.out
          rw [List.take_of_length_le (by rw [Ru.size_list]; omega), List.drop_eq_nil_of_le (i := ii) (by rw [Ru.size_list]; omega), Ru.replL_nil, List.append_nil] at this
          rw [← this, byteCells_append, str_cells, extract_list, str8_list]
          simp [Ru.pc, List.take_of_length_le]
        go_wp2
        go_region_with (go_at_call 126; refine (buf_write B b (byteCells acc) (s.extract la s.size) _ (by exact hBf) hLN (by exact hbs)).mono ?_; rintro e w2 ⟨rfl, hb2, hw2⟩)
        go_wp2
        go_ret2
        exact ⟨⟨_, rfl⟩, by rw [← hCC]; exact hb2, hbw.drew.trans hw2⟩
    | succ k1 =>
      have hle : (ii : Int) ≤ (s.size : Int) := by omega
      by_cases hend : ii = s.size
      · subst hend
        go_wp2_with (go_at_call 112; refine (lookup_none _ g t n1 n2 n3 n4 T _ (by simp)).mono ?_; rintro e w2 ⟨rfl, hw2⟩; rw [hw2])
        go_roundg k1
        case rel =>
          exact ⟨_, _, la, s.size + 1, acc, rfl, rfl, rfl, rfl, rfl, by simp, by omega, hls, by omega, hal, hBf, hbw, step_end (by rw [Ru.size_list]) hHR.out⟩
        case measure => omega
      · obtain ⟨c, u, hd⟩ : ∃ c u, s.data.toList.drop ii = c :: u := by
          cases hq : s.data.toList.drop ii with
          | nil =>
            have := congrArg List.length hq
            rw [List.length_drop, Ru.size_list] at this; simp at this; omega
          | cons c u => exact ⟨c, u, rfl⟩
        obtain ⟨hi, hix⟩ := at_byte hd
        have hne : ¬ ((ii : Int) = (s.size : Int)) := by omega
        have hlt : (ii : Int) < (s.size : Int) := by omega
        have hl0 : 0 ≤ (ii : Int) := by omega
        have hx : ∀ h : ii < s.size, s[ii]'h = c := fun _ => hix
        clear hix
        have ht0 := T.t0
        have ht1 := T.t1
        have ht2 := T.t2
        have ht3 := T.t3
        have ht4 := T.t4
        by_cases e158 : c = 158
        · subst e158
          have hm : wr.cell? ⟨g, 164, none⟩ = some (.int .u8 0) := T.mp 158 (by omega)
          go_wp2
          go_quiet (fail)
          go_wp2
          go_roundg k1
          case rel =>
            exact ⟨_, _, la, ii + 1, acc, rfl, rfl, rfl, rfl, rfl, by simp, by omega, hls, by omega, hal, hBf.drewN _, aid.below_drewN hbw _, step_skip hd hli (Ru.replL_skip _ _ (by decide) (by decide)) hHR.out⟩
          case measure => omega
        by_cases e159 : c = 159
        · subst e159
          have hm : wr.cell? ⟨g, 165, none⟩ = some (.int .u8 1) := T.mp 159 (by omega)
          go_wp2
          go_quiet (fail)
          go_wp2
          go_roundg k1
          case rel =>
            exact ⟨_, _, la, ii + 1, acc, rfl, rfl, rfl, rfl, rfl, by simp, by omega, hls, by omega, hal, hBf.drewN _, aid.below_drewN hbw _, step_skip hd hli (Ru.replL_skip _ _ (by decide) (by decide)) hHR.out⟩
          case measure => omega
        by_cases e186 : c = 186
        · subst e186
          have hm : wr.cell? ⟨g, 192, none⟩ = some (.int .u8 2) := T.mp 186 (by omega)
          go_wp2
          go_quiet (fail)
          go_wp2
          go_roundg k1
          case rel =>
            exact ⟨_, _, la, ii + 1, acc, rfl, rfl, rfl, rfl, rfl, by simp, by omega, hls, by omega, hal, hBf.drewN _, aid.below_drewN hbw _, step_skip hd hli (Ru.replL_skip _ _ (by decide) (by decide)) hHR.out⟩
          case measure => omega
        by_cases e195 : c = 195
        · subst e195
          have hm : wr.cell? ⟨g, 201, none⟩ = some (.int .u8 3) := T.mp 195 (by omega)
          have hL := fun nq => lookup_one (wr.drewN nq) g t n1 n2 n3 n4 (T.drewN nq) (s.extract ii s.size) u (by rw [extract_list, str8_list, ← hd]; simp [Ru.pc, List.take_of_length_le]) (by rw [ByteArray.size_extract]; omega)
          by_cases hu : u.head? = some 159
          · simp only [if_pos hu] at hL
            obtain ⟨v, hv⟩ : ∃ v, u = 159 :: v := by
              cases u with
              | nil => simp at hu
              | cons x v => simp at hu; exact ⟨v, by rw [hu]⟩
            have hk : ii + 2 ≤ s.size := by
              have := congrArg List.length hd
              rw [hv, List.length_drop, Ru.size_list] at this; simp only [List.length_cons] at this; omega
            have hd2 : s.data.toList.drop ii = [195, 159] ++ v := by rw [hd, hv]; rfl
            have hrr : Ru.replL ([195, 159] ++ v) = 115 :: 115 :: Ru.replL v := by
              rw [List.cons_append, Ru.replL_cons]
              rw [if_pos ⟨rfl, rfl⟩]
              rfl
            have HN := Lib.hid (step_hit hd2 rfl hrr hHR.out)
            have hLN : (byteCells acc).length + (s.extract la ii).size ≤ 140737488355328 := by rw [byteCells_length, ByteArray.size_extract]; omega
            have hLN2 : (byteCells acc ++ strCells (s.extract la ii)).length + (⟨#[115, 115]⟩ : ByteArray).size ≤ 140737488355328 := by
              rw [List.length_append, byteCells_length, strCells_length, ByteArray.size_extract]
              have : (⟨#[115, 115]⟩ : ByteArray).size = 2 := rfl
              omega
            have hCC : byteCells acc ++ strCells (s.extract la ii) ++ strCells ⟨#[115, 115]⟩ = byteCells (acc ++ (s.data.toList.take ii).drop la ++ [115, 115]) := by
              rw [byteCells_append, byteCells_append, str_cells, str_cells, extract_list, str8_list, Ru.pc, List.drop_take]
            have hN2 : (acc ++ (s.data.toList.take ii).drop la ++ [115, 115]).length ≤ ii + 2 := by
              rw [List.length_append, List.length_append, List.length_drop, List.length_take]
              have : ([115, 115] : List UInt8).length = 2 := rfl
              omega
            have hlai : (la : Int) ≤ (ii : Int) := by omega
            have hla0 : 0 ≤ (la : Int) := by omega
            have HCC := Lib.hid hCC
            have HN2 := Lib.hid hN2
            clear hu hd2 hrr hv hCC hN2
            go_wp2
            go_quiet (fail)
            go_wp2_with (go_at_call 112; refine (hL _).mono ?_; rintro e w2 ⟨rfl, nq2, hw2⟩; rw [hw2])
            have hB2 := hBf.drewN (nq + nq2)
            have hb2 := aid.below_drewN hbw (nq + nq2)
            have hs2 : B ≤ (wr.drewN (nq + nq2)).heap.size := Nat.le_trans hBw (by have := hb2.size; omega)
            generalize wr.drewN (nq + nq2) = W2 at *
            go_region_with (go_at_call 126; refine (buf_write B b (byteCells acc) (s.extract la ii) _ (by exact hB2) hLN (by exact hs2)).mono ?_; rintro e w3 ⟨rfl, hB3, hb3⟩)
            have hb4 := hb2.drew.trans hb3
            have hs3 : B ≤ w3.heap.size := Nat.le_trans hBw (by have := hb4.size; omega)
            go_wp2_with (go_at_call 126; refine (buf_write B b _ ⟨#[115, 115]⟩ _ hB3 hLN2 hs3).mono ?_; rintro e w4 ⟨rfl, hB5, hb5⟩)
            go_roundg (k1 - 1)
            case rel =>
              exact ⟨_, _, ii + 2, ii + 2, _, rfl, rfl, by simp, rfl, rfl, by simp, by omega, by omega, by omega, HN2.out, by rw [← HCC.out]; exact hB5, hb4.trans hb5, HN.out⟩
            case measure => omega
          · simp only [if_neg hu] at hL
            have HRS := Lib.hid (show Ru.replL (195 :: u) = 195 :: Ru.replL u by rw [Ru.replL_cons]; first | rw [if_neg (fun h => hu h.2), if_neg (fun h => absurd h.1 (by decide))] | rw [if_neg (fun h => absurd h.1 (by decide)), if_neg (fun h => hu h.2)])
            clear hu
            go_wp2
            go_quiet (fail)
            go_wp2_with (go_at_call 112; refine (hL _).mono ?_; rintro e w2 ⟨rfl, nq2, hw2⟩; rw [hw2])
            go_roundg k1
            case rel =>
              exact ⟨_, _, la, ii + 1, acc, rfl, rfl, rfl, rfl, rfl, by simp, by omega, hls, by omega, hal, hBf.drewN _, aid.below_drewN hbw _, step_skip hd hli HRS.out hHR.out⟩
            case measure => omega
        by_cases e225 : c = 225
        · subst e225
          have hm : wr.cell? ⟨g, 231, none⟩ = some (.int .u8 4) := T.mp 225 (by omega)
          have hL := fun nq => lookup_two (wr.drewN nq) g t n1 n2 n3 n4 (T.drewN nq) (s.extract ii s.size) u (by rw [extract_list, str8_list, ← hd]; simp [Ru.pc, List.take_of_length_le]) (by rw [ByteArray.size_extract]; omega)
          by_cases hu : u.head? = some 186 ∧ u.tail.head? = some 158
          · simp only [if_pos hu] at hL
            obtain ⟨v, hv⟩ : ∃ v, u = 186 :: 158 :: v := by
              obtain _ | ⟨x, _ | ⟨y, v⟩⟩ := u
              · simp at hu
              · simp at hu
              · simp at hu; exact ⟨v, by rw [hu.1, hu.2]⟩
            have hk : ii + 3 ≤ s.size := by
              have := congrArg List.length hd
              rw [hv, List.length_drop, Ru.size_list] at this; simp only [List.length_cons] at this; omega
            have hd2 : s.data.toList.drop ii = [225, 186, 158] ++ v := by rw [hd, hv]; rfl
            have hrr : Ru.replL ([225, 186, 158] ++ v) = 115 :: 115 :: Ru.replL v := by
              rw [List.cons_append, Ru.replL_cons]
              rw [if_neg (fun h => absurd h.1 (by decide)), if_pos ⟨rfl, rfl, rfl⟩]
              rfl
            have HN := Lib.hid (step_hit hd2 rfl hrr hHR.out)
            have hLN : (byteCells acc).length + (s.extract la ii).size ≤ 140737488355328 := by rw [byteCells_length, ByteArray.size_extract]; omega
            have hLN2 : (byteCells acc ++ strCells (s.extract la ii)).length + (⟨#[115, 115]⟩ : ByteArray).size ≤ 140737488355328 := by
              rw [List.length_append, byteCells_length, strCells_length, ByteArray.size_extract]
              have : (⟨#[115, 115]⟩ : ByteArray).size = 2 := rfl
              omega
            have hCC : byteCells acc ++ strCells (s.extract la ii) ++ strCells ⟨#[115, 115]⟩ = byteCells (acc ++ (s.data.toList.take ii).drop la ++ [115, 115]) := by
              rw [byteCells_append, byteCells_append, str_cells, str_cells, extract_list, str8_list, Ru.pc, List.drop_take]
            have hN2 : (acc ++ (s.data.toList.take ii).drop la ++ [115, 115]).length ≤ ii + 3 := by
              rw [List.length_append, List.length_append, List.length_drop, List.length_take]
              have : ([115, 115] : List UInt8).length = 2 := rfl
              omega
            have hlai : (la : Int) ≤ (ii : Int) := by omega
            have hla0 : 0 ≤ (la : Int) := by omega
            have HCC := Lib.hid hCC
            have HN2 := Lib.hid hN2
            clear hu hd2 hrr hv hCC hN2
            go_wp2
            go_quiet (fail)
            go_wp2_with (go_at_call 112; refine (hL _).mono ?_; rintro e w2 ⟨rfl, nq2, hw2⟩; rw [hw2])
            have hB2 := hBf.drewN (nq + nq2)
            have hb2 := aid.below_drewN hbw (nq + nq2)
            have hs2 : B ≤ (wr.drewN (nq + nq2)).heap.size := Nat.le_trans hBw (by have := hb2.size; omega)
            generalize wr.drewN (nq + nq2) = W2 at *
            go_region_with (go_at_call 126; refine (buf_write B b (byteCells acc) (s.extract la ii) _ (by exact hB2) hLN (by exact hs2)).mono ?_; rintro e w3 ⟨rfl, hB3, hb3⟩)
            have hb4 := hb2.drew.trans hb3
            have hs3 : B ≤ w3.heap.size := Nat.le_trans hBw (by have := hb4.size; omega)
            go_wp2_with (go_at_call 126; refine (buf_write B b _ ⟨#[115, 115]⟩ _ hB3 hLN2 hs3).mono ?_; rintro e w4 ⟨rfl, hB5, hb5⟩)
            go_roundg (k1 - 2)
            case rel =>
              exact ⟨_, _, ii + 3, ii + 3, _, rfl, rfl, by simp, rfl, rfl, by simp, by omega, by omega, by omega, HN2.out, by rw [← HCC.out]; exact hB5, hb4.trans hb5, HN.out⟩
            case measure => omega
          · simp only [if_neg hu] at hL
            have HRS := Lib.hid (show Ru.replL (225 :: u) = 225 :: Ru.replL u by rw [Ru.replL_cons]; first | rw [if_neg (fun h => hu h.2), if_neg (fun h => absurd h.1 (by decide))] | rw [if_neg (fun h => absurd h.1 (by decide)), if_neg (fun h => hu h.2)])
            clear hu
            go_wp2
            go_quiet (fail)
            go_wp2_with (go_at_call 112; refine (hL _).mono ?_; rintro e w2 ⟨rfl, nq2, hw2⟩; rw [hw2])
            go_roundg k1
            case rel =>
              exact ⟨_, _, la, ii + 1, acc, rfl, rfl, rfl, rfl, rfl, by simp, by omega, hls, by omega, hal, hBf.drewN _, aid.below_drewN hbw _, step_skip hd hli HRS.out hHR.out⟩
            case measure => omega
        have hm : wr.cell? ⟨g, 6 + c.toNat, none⟩ = some (.int .u8 5) := by
          rw [T.mp c.toNat c.toNat_lt]
          have : mapF c.toNat = 5 := by
            unfold mapF
            rw [if_neg (show ¬ c.toNat = 158 from fun e => e158 (UInt8.toNat_inj.1 e)), if_neg (show ¬ c.toNat = 159 from fun e => e159 (UInt8.toNat_inj.1 e)), if_neg (show ¬ c.toNat = 186 from fun e => e186 (UInt8.toNat_inj.1 e)), if_neg (show ¬ c.toNat = 195 from fun e => e195 (UInt8.toNat_inj.1 e)), if_neg (show ¬ c.toNat = 225 from fun e => e225 (UInt8.toNat_inj.1 e))]
          rw [this]
        have HRS := Lib.hid (Ru.replL_skip c u e195 e225)
        have hcl := c.toNat_lt
        go_wp2
        go_quiet (fail)
        go_wp2
        go_roundg k1
        case rel =>
          exact ⟨_, _, la, ii + 1, acc, rfl, rfl, rfl, rfl, rfl, by simp, by omega, hls, by omega, hal, hBf.drewN _, aid.below_drewN hbw _, step_skip hd hli HRS.out hHR.out⟩
        case measure => omega
end Go.Proofs.YtokmmkeoodgodaaGreatDoor
