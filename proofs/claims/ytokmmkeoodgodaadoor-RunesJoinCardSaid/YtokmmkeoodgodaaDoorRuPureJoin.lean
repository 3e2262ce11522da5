/-
  THE PURE HALF of RunesJoin.
-/
import Derived.Test.YtokmmkeoodgodaaDoorRuPureA
import Derived.Test.YtokmmkeoodgodaaDoorPr5
namespace Go.Proofs.YtokmmkeoodgodaaDoor
open Go.RowKit Go.Proofs.YtokmmkeoodgodaaDoorW.PrintWords Pr
set_option linter.unusedSimpArgs false
set_option linter.unusedVariables false

theorem str8_append (a b : List UInt8) : str8 a ++ str8 b = str8 (a ++ b) := by
  apply ByteArray.ext
  rw [ByteArray.data_append]
  simp [str8]
theorem str8_size (l : List UInt8) : (str8 l).size = l.length := by rw [← Ru.size_list, str8_list]
theorem as_str8 (s : ByteArray) : str8 s.data.toList = s := list_str s

/-- which bytes are kept -/
def keep (b : UInt8) : Bool := b != 10 && b != 13
/-- the text that is made of one that came in -/
def joinT (s : ByteArray) : List UInt8 := (s.data.toList.take 200).filter keep
/-- does the next text begin with a letter? -/
def nextOk (x0 : List ByteArray) (x1 : List Int) (i : Nat) : Prop := i + 1 < x0.length ∧ i + 1 < x1.length ∧ (x0.getD (i + 1) ByteArray.empty).toList ≠ [] ∧ bt (x0.getD (i + 1) ByteArray.empty) 0 ≠ 10 ∧ bt (x0.getD (i + 1) ByteArray.empty) 0 ≠ 13
instance (x0 : List ByteArray) (x1 : List Int) (i : Nat) : Decidable (nextOk x0 x1 i) := by unfold nextOk; infer_instance
/-- the end that is laid behind it -/
def joinE (x0 : List ByteArray) (x1 : List Int) (i : Nat) : List UInt8 :=
  if Go.bits .and .i64 (rd x1 (i : Int)) 3 = 2 ∧ nextOk x0 x1 i then [13] else if Go.bits .and .i64 (rd x1 (i : Int)) 3 = 1 then [13, 10] else [10]
theorem joinE_len (x0 : List ByteArray) (x1 : List Int) (i : Nat) : (joinE x0 x1 i).length ≤ 2 := by
  unfold joinE
  repeat' split
  all_goals simp
theorem joinT_len (s : ByteArray) : (joinT s).length ≤ 200 := by
  unfold joinT
  have h1 := List.length_filter_le keep (s.data.toList.take 200)
  have h2 : (s.data.toList.take 200).length ≤ 200 := by rw [List.length_take]; omega
  omega

set_option maxHeartbeats 4000000 in
/-- behind a text: its end, and the next one -/
theorem join_end (k : Nat) (x0 : List ByteArray) (x1 : List Int) (x6 : List ByteArray) (x7 x9 : ByteArray) (i : Nat) (x10 : Int) (hi : i < 50) (h1 : i < x1.length) (h6 : x6.length ≤ 50) (h7 : x7.size ≤ 100000) (h9 : x9.size ≤ 200) :
    scriptoriumlaw01_RunesJoin.j3 (k + 1) x0 x1 true x6 x7 i x9 x10 false = scriptoriumlaw01_RunesJoin.l0 k x0 x1 true (x6 ++ [x9]) ((x7 ++ x9) ++ str8 (joinE x0 x1 i)) ((i + 1 : Nat) : Int) := by
  have hs : (x7 ++ x9).size = x7.size + x9.size := ByteArray.size_append
  simp only [scriptoriumlaw01_RunesJoin.j3]
  rw [if_neg (by decide), if_pos (by omega), Option.bind_some, if_pos (by omega), if_pos (by omega), w64 i (by omega)]
  have hr : rdOf ByteArray.empty x0 ((i + 1 : Nat) : Int) = x0.getD (i + 1) ByteArray.empty := by unfold rdOf; rw [Int.toNat_natCast]
  rw [hr]
  have e10 : str8 [10] = (⟨#[10]⟩ : ByteArray) := rfl
  have e13 : str8 [13] = (⟨#[13]⟩ : ByteArray) := rfl
  have e1310 : str8 [13, 10] = (⟨#[13, 10]⟩ : ByteArray) := rfl
  have g1 : x7.size + x9.size ≤ 9223372036854775807 := by omega
  have g2 : (x7 ++ x9).size + 2 ≤ 9223372036854775807 := by omega
  have g3 : (x7 ++ x9).size + 1 ≤ 9223372036854775807 := by omega
  have g4 : (0 : Int) ≤ ((i + 1 : Nat) : Int) := by omega
  simp only [if_pos g1, if_pos g2, if_pos g3, if_pos g4]
  by_cases m2 : Go.bits .and .i64 (rd x1 (i : Int)) 3 = 2
  · by_cases n1 : i + 1 < x0.length
    · by_cases n2 : i + 1 < x1.length
      · by_cases n3 : (x0.getD (i + 1) ByteArray.empty).toList = []
        · have hn : ¬ nextOk x0 x1 i := fun h => h.2.2.1 n3
          have hE : joinE x0 x1 i = if Go.bits .and .i64 (rd x1 (i : Int)) 3 = 1 then [13, 10] else [10] := by unfold joinE; rw [if_neg (fun h => hn h.2)]
          rw [hE]
          have n1' : ((i + 1 : Nat) : Int) < (x0.length : Int) := by omega
          have n2' : ((i + 1 : Nat) : Int) < (x1.length : Int) := by omega
          simp only [if_pos m2, if_pos n1', if_pos n2', if_pos n3]
          split
          · rw [e1310]
          · rw [e10]
        · have n1' : ((i + 1 : Nat) : Int) < (x0.length : Int) := by omega
          have n2' : ((i + 1 : Nat) : Int) < (x1.length : Int) := by omega
          have n4 : (0 : Int) < ((x0.getD (i + 1) ByteArray.empty).size : Int) := by
            have : (x0.getD (i + 1) ByteArray.empty).size ≠ 0 := by
              intro h
              apply n3
              rw [toList_eq]
              exact List.length_eq_zero_iff.1 (by rw [Ru.size_list]; exact h)
            omega
          simp only [if_pos m2, if_pos n1', if_pos n2', if_neg n3, if_pos n4]
          by_cases b1 : bt (x0.getD (i + 1) ByteArray.empty) 0 = 10
          · have hn : ¬ nextOk x0 x1 i := fun h => h.2.2.2.1 b1
            have hE : joinE x0 x1 i = if Go.bits .and .i64 (rd x1 (i : Int)) 3 = 1 then [13, 10] else [10] := by unfold joinE; rw [if_neg (fun h => hn h.2)]
            rw [hE]
            simp only [if_pos b1]
            split
            · rw [e1310]
            · rw [e10]
          · by_cases b2 : bt (x0.getD (i + 1) ByteArray.empty) 0 = 13
            · have hn : ¬ nextOk x0 x1 i := fun h => h.2.2.2.2 b2
              have hE : joinE x0 x1 i = if Go.bits .and .i64 (rd x1 (i : Int)) 3 = 1 then [13, 10] else [10] := by unfold joinE; rw [if_neg (fun h => hn h.2)]
              rw [hE]
              simp only [if_neg b1, if_pos b2]
              split
              · rw [e1310]
              · rw [e10]
            · have hn : nextOk x0 x1 i := ⟨n1, n2, n3, b1, b2⟩
              have hE : joinE x0 x1 i = [13] := by unfold joinE; rw [if_pos ⟨m2, hn⟩]
              rw [hE, e13]
              simp only [if_neg b1, if_neg b2]
              split
              · rfl
              · rfl
      · have hn : ¬ nextOk x0 x1 i := fun h => n2 h.2.1
        have hE : joinE x0 x1 i = if Go.bits .and .i64 (rd x1 (i : Int)) 3 = 1 then [13, 10] else [10] := by unfold joinE; rw [if_neg (fun h => hn h.2)]
        rw [hE]
        have n1' : ((i + 1 : Nat) : Int) < (x0.length : Int) := by omega
        have n2' : ¬ ((i + 1 : Nat) : Int) < (x1.length : Int) := by omega
        simp only [if_pos m2, if_pos n1', if_neg n2']
        split
        · rw [e1310]
        · rw [e10]
    · have hn : ¬ nextOk x0 x1 i := fun h => n1 h.1
      have hE : joinE x0 x1 i = if Go.bits .and .i64 (rd x1 (i : Int)) 3 = 1 then [13, 10] else [10] := by unfold joinE; rw [if_neg (fun h => hn h.2)]
      rw [hE]
      have n1' : ¬ ((i + 1 : Nat) : Int) < (x0.length : Int) := by omega
      simp only [if_pos m2, if_neg n1']
      split
      · rw [e1310]
      · rw [e10]
  · have hE : joinE x0 x1 i = if Go.bits .and .i64 (rd x1 (i : Int)) 3 = 1 then [13, 10] else [10] := by unfold joinE; rw [if_neg (fun h => m2 h.1)]
    rw [hE]
    simp only [if_neg m2]
    split
    · rw [e1310]
    · rw [e10]

set_option maxRecDepth 100000 in
set_option maxHeartbeats 4000000 in
/-- the loop over one text's letters -/
theorem join_l1 (K : Nat) (x0 : List ByteArray) (x1 : List Int) (x6 : List ByteArray) (x7 : ByteArray) (i : Nat) (hi : i < 50) (h0 : i < x0.length) (h1 : i < x1.length) (h6 : x6.length ≤ 50) (h7 : x7.size ≤ 100000) (s : ByteArray) (hs : x0.getD i ByteArray.empty = s) (hsz : s.size ≤ 9223372036854775807) :
    ∀ (n j : Nat) (acc : List UInt8), j + n = min s.size 200 → acc.length ≤ j →
      scriptoriumlaw01_RunesJoin.l1 (K + 2 * n + 1 + 1) x0 x1 true x6 x7 i (str8 acc) j = scriptoriumlaw01_RunesJoin.l0 K x0 x1 true (x6 ++ [str8 (acc ++ ((s.data.toList.take 200).drop j).filter keep)]) ((x7 ++ str8 (acc ++ ((s.data.toList.take 200).drop j).filter keep)) ++ str8 (joinE x0 x1 i)) ((i + 1 : Nat) : Int) := by
  have hr : rdOf ByteArray.empty x0 (i : Int) = s := by unfold rdOf; rw [Int.toNat_natCast]; exact hs
  intro n
  induction n with
  | zero =>
    intro j acc hj ha
    have hd : (s.data.toList.take 200).drop j = [] := List.drop_eq_nil_of_le (by rw [List.length_take, Ru.size_list]; omega)
    rw [hd, List.filter_nil, List.append_nil]
    have he := join_end K x0 x1 x6 x7 (str8 acc) i (j : Int) hi h1 h6 h7 (by rw [str8_size]; omega)
    rw [show K + 2 * 0 + 1 + 1 = (K + 1) + 1 from rfl]
    simp only [scriptoriumlaw01_RunesJoin.l1]
    rw [if_pos (by omega), if_pos (by omega), hr]
    by_cases hjs : j < s.size
    · rw [if_pos (by omega), show decide ((j : Int) < 200) = false from decide_eq_false (by omega)]
      exact he
    · rw [if_neg (by omega)]
      exact he
  | succ n ih =>
    intro j acc hj ha
    have hjs : j < s.size := by omega
    have hj2 : j < 200 := by omega
    obtain ⟨b, hb⟩ : ∃ b, s.data.toList[j]? = some b := ⟨_, List.getElem?_eq_getElem (by rw [Ru.size_list]; exact hjs)⟩
    have hbt := bt_of hb
    have hd : (s.data.toList.take 200).drop j = b :: (s.data.toList.take 200).drop (j + 1) := by
      have hb2 : (s.data.toList.take 200)[j]? = some b := by rw [List.getElem?_take, if_pos hj2]; exact hb
      have hjl : j < (s.data.toList.take 200).length := (List.getElem?_eq_some_iff.1 hb2).1
      rw [List.drop_eq_getElem_cons hjl]
      rw [List.getElem?_eq_getElem hjl] at hb2
      rw [Option.some.inj hb2]
    obtain ⟨M, hM⟩ : ∃ M, K + 2 * n + 1 + 1 = M := ⟨_, rfl⟩
    rw [show K + 2 * (n + 1) + 1 + 1 = (M + 1) + 1 by omega]
    simp only [scriptoriumlaw01_RunesJoin.l1, scriptoriumlaw01_RunesJoin.j3]
    rw [← hM]
    rw [if_pos (by omega), if_pos (by omega), hr, if_pos (by omega), show decide ((j : Int) < 200) = true from decide_eq_true (by omega), if_pos rfl, if_pos (by omega), if_pos (by omega), if_pos (by omega), if_pos (by omega), hbt, w64 j (by omega)]
    by_cases b10 : b = 10
    · subst b10
      rw [if_pos (by decide), ih (j + 1) acc (by omega) (by omega), hd]
      rfl
    · have c10 : ¬ ((b.toNat : Int) = 10) := fun e => b10 (UInt8.toNat_inj.1 (show b.toNat = (10 : UInt8).toNat by have : (10 : UInt8).toNat = 10 := rfl; omega))
      rw [if_neg c10]
      by_cases b13 : b = 13
      · subst b13
        rw [if_pos (by decide), ih (j + 1) acc (by omega) (by omega), hd]
        rfl
      · have c13 : ¬ ((b.toNat : Int) = 13) := fun e => b13 (UInt8.toNat_inj.1 (show b.toNat = (13 : UInt8).toNat by have : (13 : UInt8).toNat = 13 := rfl; omega))
        have hx : s.extract (j : Int).toNat ((j + 1 : Nat) : Int).toNat = str8 [b] := by
          rw [Int.toNat_natCast, Int.toNat_natCast, cut_str]
          congr 1
          have hjl : j < s.data.toList.length := by rw [Ru.size_list]; exact hjs
          rw [List.take_add_one, hb, List.drop_append, List.length_take, Nat.min_eq_left (by omega), Nat.sub_self]
          simp
        have hz : (str8 acc).size + (str8 [b]).size ≤ 9223372036854775807 := by rw [str8_size, str8_size]; simp; omega
        rw [if_neg c13, if_pos (by omega), if_pos (by omega), hx, if_pos hz, str8_append, ih (j + 1) (acc ++ [b]) (by omega) (by simp; omega), hd]
        have hk : keep b = true := by unfold keep; rw [bne_iff_ne.2 b10, bne_iff_ne.2 b13]; rfl
        rw [List.filter_cons_of_pos hk, List.append_assoc]
        rfl

/-- the pieces from one number on -/
def pieces (x0 : List ByteArray) (x1 : List Int) : Nat → Nat → List (List UInt8 × List UInt8)
  | 0, _ => []
  | n + 1, i => (joinT (x0.getD i ByteArray.empty), joinE x0 x1 i) :: pieces x0 x1 n (i + 1)

theorem joinT_plain (s : ByteArray) : Ru.plain (joinT s) := by
  intro b hb
  have := (List.mem_filter.1 hb).2
  unfold keep at this
  simp only [Bool.and_eq_true, bne_iff_ne] at this
  exact this

theorem joinT_head (s : ByteArray) (h0 : s.toList ≠ []) (h10 : bt s 0 ≠ 10) (h13 : bt s 0 ≠ 13) (r : List UInt8) : (joinT s ++ r).head? ≠ some 10 := by
  rw [toList_eq] at h0
  unfold joinT
  cases hl : s.data.toList with
  | nil => exact absurd hl h0
  | cons b t =>
    have hb : bt s ((0 : Nat) : Int) = b.toNat := bt_of (by rw [hl]; rfl)
    have hb : bt s 0 = b.toNat := hb
    have k10 : b ≠ 10 := by rintro rfl; exact h10 hb
    have k13 : b ≠ 13 := by rintro rfl; exact h13 hb
    have hk : keep b = true := by unfold keep; rw [bne_iff_ne.2 k10, bne_iff_ne.2 k13]; rfl
    rw [List.take_succ_cons, List.filter_cons_of_pos hk]
    simp only [List.cons_append, List.head?_cons, ne_eq, Option.some.injEq]
    exact k10

theorem pieces_right (x0 : List ByteArray) (x1 : List Int) : ∀ n i : Nat, i + n = min (min x0.length x1.length) 50 → Ru.Right (pieces x0 x1 n i)
  | 0, _, _ => trivial
  | n + 1, i, h => by
    refine ⟨joinT_plain _, ?_, pieces_right x0 x1 n (i + 1) (by omega)⟩
    unfold joinE
    split
    · rename_i hc
      refine .inr (.inr ⟨rfl, ?_⟩)
      cases n with
      | zero => simp [pieces, Ru.glue]
      | succ m =>
        simp only [pieces, Ru.glue]
        rw [List.append_assoc]
        exact joinT_head _ hc.2.2.2.1 hc.2.2.2.2.1 hc.2.2.2.2.2 _
    · split
      · exact .inr (.inl rfl)
      · exact .inl rfl

theorem join_l0 (x0 : List ByteArray) (x1 : List Int) (hz : ∀ s ∈ x0, s.size ≤ 9223372036854775807) : ∀ n i : Nat, i + n = min (min x0.length x1.length) 50 → ∀ (x6 : List ByteArray) (x7 : ByteArray), x6.length ≤ i → x7.size ≤ 202 * i →
    ∃ F : Nat, ∀ K, scriptoriumlaw01_RunesJoin.l0 (K + F) x0 x1 true x6 x7 i = scriptoriumlaw01_RunesJoin.j1 K x0 x1 true (x6 ++ (pieces x0 x1 n i).map fun p => str8 p.1) (x7 ++ str8 (Ru.glue (pieces x0 x1 n i))) ((i + n : Nat) : Int) false := by
  intro n
  induction n with
  | zero =>
    intro i h x6 x7 h6 h7
    refine ⟨1, fun K => ?_⟩
    simp only [scriptoriumlaw01_RunesJoin.l0, pieces, Ru.glue, List.map_nil, List.append_nil, Nat.add_zero]
    have e : x7 ++ str8 [] = x7 := by
      have := str8_append x7.data.toList []
      rw [as_str8, List.append_nil, as_str8] at this
      exact this
    rw [e]
    by_cases a : (i : Int) < (x0.length : Int)
    · rw [if_pos a]
      by_cases b : (i : Int) < (x1.length : Int)
      · rw [if_pos b, show decide ((i : Int) < 50) = false from decide_eq_false (by omega)]
      · rw [if_neg b]
    · rw [if_neg a]
  | succ n ih =>
    intro i h x6 x7 h6 h7
    obtain ⟨s, hs⟩ : ∃ s, x0.getD i ByteArray.empty = s := ⟨_, rfl⟩
    have hsz : s.size ≤ 9223372036854775807 := by
      rw [← hs, List.getD_eq_getElem?_getD, List.getElem?_eq_getElem (by omega)]
      exact hz _ (List.getElem_mem _)
    have hT := joinT_len s
    have hE := joinE_len x0 x1 i
    obtain ⟨F, hF⟩ := ih (i + 1) (by omega) (x6 ++ [str8 (joinT s)]) ((x7 ++ str8 (joinT s)) ++ str8 (joinE x0 x1 i)) (by simp; omega) (by rw [ByteArray.size_append, ByteArray.size_append, str8_size, str8_size]; omega)
    refine ⟨F + 2 * (min s.size 200) + 1 + 1 + 1 + 1, fun K => ?_⟩
    have hl := join_l1 (K + F) x0 x1 x6 x7 i (by omega) (by omega) (by omega) (by omega) (by omega) s hs hsz (min s.size 200) 0 [] (Nat.zero_add _) (Nat.le_refl _)
    rw [show K + (F + 2 * (min s.size 200) + 1 + 1 + 1 + 1) = ((K + F + 2 * (min s.size 200) + 1 + 1) + 1) + 1 by omega]
    simp only [scriptoriumlaw01_RunesJoin.l0, scriptoriumlaw01_RunesJoin.j1]
    rw [if_pos (by omega), if_pos (by omega), show decide ((i : Int) < 50) = true from decide_eq_true (by omega), if_pos rfl]
    rw [show (⟨#[]⟩ : ByteArray) = str8 [] from rfl]
    refine hl.trans ?_
    rw [List.drop_zero, List.nil_append]
    have := hF K
    rw [show (s.data.toList.take 200).filter keep = joinT s from rfl, this]
    simp only [pieces, hs, Ru.glue, List.map_cons, List.append_assoc, List.singleton_append]
    rw [← str8_append, ← str8_append]
    have e2 : (x7 ++ str8 (joinT s)) ++ str8 (joinE x0 x1 i) ++ str8 (Ru.glue (pieces x0 x1 n (i + 1))) = x7 ++ (str8 (joinT s) ++ (str8 (joinE x0 x1 i) ++ str8 (Ru.glue (pieces x0 x1 n (i + 1))))) := by
      rw [ByteArray.append_assoc, ByteArray.append_assoc]
    rw [e2, show i + 1 + n = i + (n + 1) by omega]

theorem join_l2 (L : List ByteArray) (hL : L.length ≤ 268435456) : ∀ n i : Nat, i + n = L.length → scriptoriumlaw01_RunesJoin.l2 (n + 1) L L i = some true := by
  intro n
  induction n with
  | zero =>
    intro i h
    simp only [scriptoriumlaw01_RunesJoin.l2]
    rw [if_neg (by omega)]
  | succ n ih =>
    intro i h
    have h2 := ih (i + 1) (by omega)
    have hi : i < L.length := by omega
    generalize n + 1 = M at *
    simp only [scriptoriumlaw01_RunesJoin.l2]
    rw [if_pos (by omega), if_pos (by omega), if_pos (by omega), if_pos trivial, w64 i (by omega)]
    exact h2

theorem glue_len (x0 : List ByteArray) (x1 : List Int) : ∀ n i : Nat, (Ru.glue (pieces x0 x1 n i)).length ≤ 202 * n
  | 0, _ => by simp [pieces, Ru.glue]
  | n + 1, i => by
    have := glue_len x0 x1 n (i + 1)
    have := joinT_len (x0.getD i ByteArray.empty)
    have := joinE_len x0 x1 i
    simp only [pieces, Ru.glue, List.length_append]
    omega
theorem pieces_len (x0 : List ByteArray) (x1 : List Int) : ∀ n i : Nat, (pieces x0 x1 n i).length = n
  | 0, _ => rfl
  | n + 1, i => by simp [pieces, pieces_len x0 x1 n (i + 1)]

theorem RunesJoin_pure (x0 : List ByteArray) (x1 : List Int) (hz : ∀ s ∈ x0, s.size ≤ 9223372036854775807) : ∃ k, scriptoriumlaw01_RunesJoin.f k x0 x1 = some true := by
  obtain ⟨N, hN⟩ : ∃ N, min (min x0.length x1.length) 50 = N := ⟨_, rfl⟩
  have hR := pieces_right x0 x1 N 0 (by omega)
  have hg := glue_len x0 x1 N 0
  have hp := pieces_len x0 x1 N 0
  obtain ⟨F, hF⟩ := join_l0 x0 x1 hz N 0 (by omega) [] ⟨#[]⟩ (Nat.le_refl _) (by simp [ByteArray.size])
  obtain ⟨P, hP⟩ : ∃ P, pieces x0 x1 N 0 = P := ⟨_, rfl⟩
  rw [hP] at hR hg hF hp
  refine ⟨(((P.length + 1) + 1) + 1) + F, ?_⟩
  have h1 := hF (((P.length + 1) + 1) + 1)
  have e : (⟨#[]⟩ : ByteArray) ++ str8 (Ru.glue P) = str8 (Ru.glue P) := by
    have := str8_append [] (Ru.glue P)
    exact this
  rw [e, List.nil_append] at h1
  have hL : runes_Lines.f (str8 (Ru.glue P)) = some (P.map fun p => str8 p.1) := by
    unfold runes_Lines.f
    rw [if_pos (by rw [str8_size]; omega), str8_list, Ru.lines_glue P hR, List.map_map]
    rfl
  unfold scriptoriumlaw01_RunesJoin.f
  rw [shown_true, Option.bind_some]
  refine h1.trans ?_
  have h2 := join_l2 (P.map fun p => str8 p.1) (by rw [List.length_map, hp]; omega) P.length 0 (by rw [List.length_map, Nat.zero_add])
  simp only [scriptoriumlaw01_RunesJoin.j1, scriptoriumlaw01_RunesJoin.j4]
  rw [if_neg (by decide), hL, Option.bind_some, if_pos trivial, bne_self_eq_false, if_neg (by decide)]
  exact h2
end Go.Proofs.YtokmmkeoodgodaaDoor
