/-
  THE TRIE that strings.NewReplacer builds for the two keys of runes.Fold, as a fact on memory, and what (*strings.genericReplacer).lookup finds in it.
-/
import Derived.Test.YtokmmkeoodgodaaGreatDoorRuLinesW
import Derived.BigCall
import Derived.Lib.LazyBuf
namespace Go.Proofs.YtokmmkeoodgodaaGreatDoor
open Go.RowKit Go.Lib Go.Proofs.YtokmmkeoodgodaaGreatDoorW.PrintWords

/-- the dense numbers of the five bytes of the keys -/
def mapF (j : Nat) : Int := if j = 158 then 0 else if j = 159 then 1 else if j = 186 then 2 else if j = 195 then 3 else if j = 225 then 4 else 5

/-- the trie of the two keys, in seven blocks -/
structure Trie (w : World) (g t n1 n2 n3 n4 : Nat) : Prop where
  rv : w.cell? ⟨g, 0, none⟩ = some (.string ⟨#[]⟩)
  rp : w.cell? ⟨g, 1, none⟩ = some (.int .i64 0)
  rt : w.cell? ⟨g, 4, none⟩ = some (.slice (some ⟨t, 0, none⟩) 5 5)
  sz : w.cell? ⟨g, 5, none⟩ = some (.int .i64 5)
  mp : ∀ j : Nat, j < 256 → w.cell? ⟨g, 6 + j, none⟩ = some (.int .u8 (mapF j))
  t0 : w.cell? ⟨t, 0, none⟩ = some (.pointer none)
  t1 : w.cell? ⟨t, 1, none⟩ = some (.pointer none)
  t2 : w.cell? ⟨t, 2, none⟩ = some (.pointer none)
  t3 : w.cell? ⟨t, 3, none⟩ = some (.pointer (some ⟨n1, 0, none⟩))
  t4 : w.cell? ⟨t, 4, none⟩ = some (.pointer (some ⟨n3, 0, none⟩))
  a1 : w.cell? ⟨n1, 1, none⟩ = some (.int .i64 0)
  a2 : w.cell? ⟨n1, 2, none⟩ = some (.string ⟨#[159]⟩)
  a3 : w.cell? ⟨n1, 3, none⟩ = some (.pointer (some ⟨n2, 0, none⟩))
  a4 : w.cell? ⟨n1, 4, none⟩ = some (.slice none 0 0)
  b0 : w.cell? ⟨n2, 0, none⟩ = some (.string ⟨#[115, 115]⟩)
  b1 : w.cell? ⟨n2, 1, none⟩ = some (.int .i64 4)
  b2 : w.cell? ⟨n2, 2, none⟩ = some (.string ⟨#[]⟩)
  b4 : w.cell? ⟨n2, 4, none⟩ = some (.slice none 0 0)
  c1 : w.cell? ⟨n3, 1, none⟩ = some (.int .i64 0)
  c2 : w.cell? ⟨n3, 2, none⟩ = some (.string ⟨#[186, 158]⟩)
  c3 : w.cell? ⟨n3, 3, none⟩ = some (.pointer (some ⟨n4, 0, none⟩))
  c4 : w.cell? ⟨n3, 4, none⟩ = some (.slice none 0 0)
  d0 : w.cell? ⟨n4, 0, none⟩ = some (.string ⟨#[115, 115]⟩)
  d1 : w.cell? ⟨n4, 1, none⟩ = some (.int .i64 2)
  d2 : w.cell? ⟨n4, 2, none⟩ = some (.string ⟨#[]⟩)
  d4 : w.cell? ⟨n4, 4, none⟩ = some (.slice none 0 0)

theorem Trie.below {w w' : World} {B g t n1 n2 n3 n4 : Nat} (T : Trie w g t n1 n2 n3 n4) (hg : g < B) (ht : t < B) (h1 : n1 < B) (h2 : n2 < B) (h3 : n3 < B) (h4 : n4 < B) (h : Below B w w') : Trie w' g t n1 n2 n3 n4 where
  rv := (h.cell hg).trans T.rv
  rp := (h.cell hg).trans T.rp
  rt := (h.cell hg).trans T.rt
  sz := (h.cell hg).trans T.sz
  mp := fun j hj => (h.cell hg).trans (T.mp j hj)
  t0 := (h.cell ht).trans T.t0
  t1 := (h.cell ht).trans T.t1
  t2 := (h.cell ht).trans T.t2
  t3 := (h.cell ht).trans T.t3
  t4 := (h.cell ht).trans T.t4
  a1 := (h.cell h1).trans T.a1
  a2 := (h.cell h1).trans T.a2
  a3 := (h.cell h1).trans T.a3
  a4 := (h.cell h1).trans T.a4
  b0 := (h.cell h2).trans T.b0
  b1 := (h.cell h2).trans T.b1
  b2 := (h.cell h2).trans T.b2
  b4 := (h.cell h2).trans T.b4
  c1 := (h.cell h3).trans T.c1
  c2 := (h.cell h3).trans T.c2
  c3 := (h.cell h3).trans T.c3
  c4 := (h.cell h3).trans T.c4
  d0 := (h.cell h4).trans T.d0
  d1 := (h.cell h4).trans T.d1
  d2 := (h.cell h4).trans T.d2
  d4 := (h.cell h4).trans T.d4

theorem Trie.drewN {w : World} {g t n1 n2 n3 n4 : Nat} (T : Trie w g t n1 n2 n3 n4) (k : Nat) : Trie (w.drewN k) g t n1 n2 n3 n4 := by
  induction k with
  | zero => exact T
  | succ k ih => exact ⟨ih.rv, ih.rp, ih.rt, ih.sz, ih.mp, ih.t0, ih.t1, ih.t2, ih.t3, ih.t4, ih.a1, ih.a2, ih.a3, ih.a4, ih.b0, ih.b1, ih.b2, ih.b4, ih.c1, ih.c2, ih.c3, ih.c4, ih.d0, ih.d1, ih.d2, ih.d4⟩

theorem lookup_nil (w : World) (g t n1 n2 n3 n4 : Nat) (T : Trie w g t n1 n2 n3 n4) :
    Calls Tryz.prog 112 #[.pointer (some ⟨g, 0, none⟩), .string ⟨#[]⟩, .bool false] w fun e w' => e = .returned (.tuple #[.string ⟨#[]⟩, .int .i64 0, .bool false]) ∧ w' = w := by
  have hrp := T.rp
  go_enter Tryz.func112, Tryz.ntmps112
  go_wp2
  refine wp_loop_rounds 1 ?_
  rw [rounds_succ]
  go_wp2
  go_ret3
  exact ⟨rfl, rfl⟩

theorem lookup_none (w : World) (g t n1 n2 n3 n4 : Nat) (T : Trie w g t n1 n2 n3 n4) (s : ByteArray) (hs : s.size = 0) :
    Calls Tryz.prog 112 #[.pointer (some ⟨g, 0, none⟩), .string s, .bool false] w fun e w' => e = .returned (.tuple #[.string ⟨#[]⟩, .int .i64 0, .bool false]) ∧ w' = w := by
  have : s = ⟨#[]⟩ := by
    apply ByteArray.ext; exact Array.eq_empty_of_size_eq_zero hs
  subst this
  exact lookup_nil w g t n1 n2 n3 n4 T

theorem hasPrefix_one (u : List UInt8) : Lib.hasPrefix u [159] = decide (u.head? = some 159) := by
  cases u with
  | nil => rfl
  | cons x v =>
    simp only [Lib.hasPrefix, List.isPrefixOf, Bool.and_true, List.head?_cons, Option.some.injEq]
    by_cases h : x = 159
    · subst h; rfl
    · rw [decide_eq_false h]; exact beq_eq_false_iff_ne.2 (fun e => h e.symm)

set_option maxHeartbeats 4000000 in
set_option maxRecDepth 1000000 in
theorem lookup_one (w : World) (g t n1 n2 n3 n4 : Nat) (T : Trie w g t n1 n2 n3 n4) (s : ByteArray) (u : List UInt8) (hs : s.data.toList = 195 :: u) (hz : s.size ≤ 268435456) :
    Calls Tryz.prog 112 #[.pointer (some ⟨g, 0, none⟩), .string s, .bool false] w fun e w' => e = .returned (if u.head? = some 159 then .tuple #[.string ⟨#[115, 115]⟩, .int .i64 2, .bool true] else .tuple #[.string ⟨#[]⟩, .int .i64 0, .bool false]) ∧ ∃ nq, w' = w.drewN nq := by
  obtain ⟨RES, hR⟩ : ∃ x : Value, (if u.head? = some 159 then .tuple #[.string ⟨#[115, 115]⟩, .int .i64 2, .bool true] else .tuple #[.string ⟨#[]⟩, .int .i64 0, .bool false]) = x := ⟨_, rfl⟩
  rw [hR]
  have HR := Lib.hid hR
  clear hR
  have hrp := T.rp
  have hrt := T.rt
  have hsz := T.sz
  have hm : w.cell? ⟨g, 201, none⟩ = some (.int .u8 3) := T.mp 195 (by omega)
  have ht3 := T.t3
  have ha1 := T.a1
  have ha2 := T.a2
  have ha3 := T.a3
  have ha4 := T.a4
  have hb0 := T.b0
  have hb1 := T.b1
  have hb2 := T.b2
  have hb4 := T.b4
  have hss : s.size = u.length + 1 := by rw [← Ru.size_list, hs]; rfl
  have h00 : 0 < s.size := by omega
  have hx0 : ∀ h : 0 < s.size, s[0]'h = 195 := by
    intro h
    have : s.data.toList[0]? = some 195 := by rw [hs]; rfl
    have h2 : s.data.toList[0]? = some (s[0]'h) := by
      rw [List.getElem?_eq_getElem (by rw [Ru.size_list]; exact h)]; rfl
    rw [h2] at this
    exact Option.some.inj this
  have c1 : (s.toList == ([] : List UInt8)) = false := by rw [toList_eq, hs]; rfl
  have e1 : (s.extract 1 (u.length + 1)).data.toList = u := by
    rw [extract_list, str8_list, hs]; simp [Ru.pc]
  have z1 : (s.extract 1 (u.length + 1)).size = u.length := by rw [← Ru.size_list, e1]
  have HP := fun W => Tryz.strings_HasPrefix (s.extract 1 (u.length + 1)) ⟨#[159]⟩ W
  have hpre := hasPrefix_one u
  obtain ⟨s1, hs1⟩ : ∃ x, s.extract 1 (u.length + 1) = x := ⟨_, rfl⟩
  rw [hs1] at e1 z1
  simp only [hs1] at HP
  have k1 : (1 : Int) ≤ (s.size : Int) := by omega
  have hnn : ∀ (a : Option Addr) (l c : Nat) (W : World), (Go.binOp .neq 125 (.slice a l c) (.slice none 0 0)).run Tryz.prog W = .ok (.bool (!a.isNone)) W := fun a l c W => Go.run_neq_slice_nil W _ _ a l c Tryz.underlying125
  have hs1' : s.extract 1 s.size = s1 := by rw [hss]; exact hs1
  have Z1 := Lib.hid z1
  clear hs T z1
  go_enter Tryz.func112, Tryz.ntmps112
  go_wp2
  refine wp_loop_rounds 3 ?_
  rw [rounds_succ]
  go_wp2
  go_quiet (fail)
  go_wp2
  rw [rounds_succ]
  by_cases hu : u = []
  · subst hu
    have c2 : (s1.toList == ([] : List UInt8)) = true := by rw [toList_eq, e1]; rfl
    go_wp2
    go_ret3
    exact ⟨by rw [← HR.out]; rfl, _, rfl⟩
  · have c2 : (s1.toList == ([] : List UInt8)) = false := by rw [toList_eq, e1]; exact beq_eq_false_iff_ne.2 hu
    by_cases h9 : u.head? = some 159
    · rw [decide_eq_true h9] at hpre
      have k2 : (1 : Int) ≤ (s1.size : Int) := by
        have : 0 < u.length := List.length_pos_iff.2 hu
        have := Z1.out
        omega
      have hpp : Lib.hasPrefix s1.data.toList (⟨#[159]⟩ : ByteArray).data.toList = true := by rw [e1]; exact hpre
      rw [hpp] at HP
      go_wp2_with (go_at_call 33; refine (HP _).mono ?_; rintro e w3 ⟨rfl, hw3⟩; rw [hw3])
      rw [rounds_succ]
      go_wp2
      all_goals go_ret3
      all_goals exact ⟨by rw [← HR.out, if_pos h9]; rfl, _, rfl⟩
    · rw [decide_eq_false h9] at hpre
      have H9 := Lib.hid h9
      clear h9
      have hpp : Lib.hasPrefix s1.data.toList (⟨#[159]⟩ : ByteArray).data.toList = false := by rw [e1]; exact hpre
      rw [hpp] at HP
      go_wp2_with (go_at_call 33; refine (HP _).mono ?_; rintro e w3 ⟨rfl, hw3⟩; rw [hw3])
      go_ret3
      exact ⟨by rw [← HR.out, if_neg H9.out]; rfl, _, rfl⟩
theorem hasPrefix_two (u : List UInt8) : Lib.hasPrefix u [186, 158] = decide (u.head? = some 186 ∧ u.tail.head? = some 158) := by
  obtain _ | ⟨x, _ | ⟨y, v⟩⟩ := u
  · rfl
  · simp [Lib.hasPrefix, List.isPrefixOf]
  · simp only [Lib.hasPrefix, List.isPrefixOf, Bool.and_true, List.head?_cons, Option.some.injEq, List.tail_cons]
    by_cases h : x = 186
    · by_cases h' : y = 158
      · subst h h'; rfl
      · rw [decide_eq_false (fun e => h' e.2)]
        simp only [Bool.and_eq_false_imp, beq_iff_eq, beq_eq_false_iff_ne]
        exact fun _ e => h' e.symm
    · rw [decide_eq_false (fun e => h e.1)]
      simp only [Bool.and_eq_false_imp, beq_iff_eq]
      exact fun e => absurd e.symm h

set_option maxHeartbeats 4000000 in
set_option maxRecDepth 1000000 in
theorem lookup_two (w : World) (g t n1 n2 n3 n4 : Nat) (T : Trie w g t n1 n2 n3 n4) (s : ByteArray) (u : List UInt8) (hs : s.data.toList = 225 :: u) (hz : s.size ≤ 268435456) :
    Calls Tryz.prog 112 #[.pointer (some ⟨g, 0, none⟩), .string s, .bool false] w fun e w' => e = .returned (if u.head? = some 186 ∧ u.tail.head? = some 158 then .tuple #[.string ⟨#[115, 115]⟩, .int .i64 3, .bool true] else .tuple #[.string ⟨#[]⟩, .int .i64 0, .bool false]) ∧ ∃ nq, w' = w.drewN nq := by
  obtain ⟨RES, hR⟩ : ∃ x : Value, (if u.head? = some 186 ∧ u.tail.head? = some 158 then .tuple #[.string ⟨#[115, 115]⟩, .int .i64 3, .bool true] else .tuple #[.string ⟨#[]⟩, .int .i64 0, .bool false]) = x := ⟨_, rfl⟩
  rw [hR]
  have HR := Lib.hid hR
  clear hR
  have hrp := T.rp
  have hrt := T.rt
  have hsz := T.sz
  have hm : w.cell? ⟨g, 231, none⟩ = some (.int .u8 4) := T.mp 225 (by omega)
  have ht3 := T.t4
  have ha1 := T.c1
  have ha2 := T.c2
  have ha3 := T.c3
  have ha4 := T.c4
  have hb0 := T.d0
  have hb1 := T.d1
  have hb2 := T.d2
  have hb4 := T.d4
  have hss : s.size = u.length + 1 := by rw [← Ru.size_list, hs]; rfl
  have h00 : 0 < s.size := by omega
  have hx0 : ∀ h : 0 < s.size, s[0]'h = 225 := by
    intro h
    have : s.data.toList[0]? = some 225 := by rw [hs]; rfl
    have h2 : s.data.toList[0]? = some (s[0]'h) := by
      rw [List.getElem?_eq_getElem (by rw [Ru.size_list]; exact h)]; rfl
    rw [h2] at this
    exact Option.some.inj this
  have c1 : (s.toList == ([] : List UInt8)) = false := by rw [toList_eq, hs]; rfl
  have e1 : (s.extract 1 (u.length + 1)).data.toList = u := by
    rw [extract_list, str8_list, hs]; simp [Ru.pc]
  have z1 : (s.extract 1 (u.length + 1)).size = u.length := by rw [← Ru.size_list, e1]
  have HP := fun W => Tryz.strings_HasPrefix (s.extract 1 (u.length + 1)) ⟨#[186, 158]⟩ W
  have hpre := hasPrefix_two u
  obtain ⟨s1, hs1⟩ : ∃ x, s.extract 1 (u.length + 1) = x := ⟨_, rfl⟩
  rw [hs1] at e1 z1
  simp only [hs1] at HP
  have k1 : (1 : Int) ≤ (s.size : Int) := by omega
  have hnn : ∀ (a : Option Addr) (l c : Nat) (W : World), (Go.binOp .neq 125 (.slice a l c) (.slice none 0 0)).run Tryz.prog W = .ok (.bool (!a.isNone)) W := fun a l c W => Go.run_neq_slice_nil W _ _ a l c Tryz.underlying125
  have hs1' : s.extract 1 s.size = s1 := by rw [hss]; exact hs1
  have Z1 := Lib.hid z1
  clear hs T z1
  go_enter Tryz.func112, Tryz.ntmps112
  go_wp2
  refine wp_loop_rounds 3 ?_
  rw [rounds_succ]
  go_wp2
  go_quiet (fail)
  go_wp2
  rw [rounds_succ]
  by_cases hu : u = []
  · subst hu
    have c2 : (s1.toList == ([] : List UInt8)) = true := by rw [toList_eq, e1]; rfl
    go_wp2
    go_ret3
    exact ⟨by rw [← HR.out]; rfl, _, rfl⟩
  · have c2 : (s1.toList == ([] : List UInt8)) = false := by rw [toList_eq, e1]; exact beq_eq_false_iff_ne.2 hu
    by_cases h9 : u.head? = some 186 ∧ u.tail.head? = some 158
    · rw [decide_eq_true h9] at hpre
      have k2 : (2 : Int) ≤ (s1.size : Int) := by
        have : 2 ≤ u.length := by
          obtain _ | ⟨x, _ | ⟨y, v⟩⟩ := u
          · simp at h9
          · simp at h9
          · simp
        have := Z1.out
        omega
      have hpp : Lib.hasPrefix s1.data.toList (⟨#[186, 158]⟩ : ByteArray).data.toList = true := by rw [e1]; exact hpre
      rw [hpp] at HP
      go_wp2_with (go_at_call 33; refine (HP _).mono ?_; rintro e w3 ⟨rfl, hw3⟩; rw [hw3])
      rw [rounds_succ]
      go_wp2
      all_goals go_ret3
      all_goals exact ⟨by rw [← HR.out, if_pos h9]; rfl, _, rfl⟩
    · rw [decide_eq_false h9] at hpre
      have H9 := Lib.hid h9
      clear h9
      have hpp : Lib.hasPrefix s1.data.toList (⟨#[186, 158]⟩ : ByteArray).data.toList = false := by rw [e1]; exact hpre
      rw [hpp] at HP
      go_wp2_with (go_at_call 33; refine (HP _).mono ?_; rintro e w3 ⟨rfl, hw3⟩; rw [hw3])
      go_ret3
      exact ⟨by rw [← HR.out, if_neg H9.out]; rfl, _, rfl⟩
end Go.Proofs.YtokmmkeoodgodaaGreatDoor
