/-
  strings.makeGenericReplacer at the four texts of runes.Fold: it hands back the trie.
-/
import Derived.Test.YtokmmkeoodgodaaGreatDoorRuAdd
import Derived.Lib.ReflectliteSwap
namespace Go.Proofs.YtokmmkeoodgodaaGreatDoor
open Go.RowKit Go.Lib Go.Proofs.YtokmmkeoodgodaaGreatDoorW.PrintWords

/-- block g is a generic replacer without a root's value: its mapping, its table's size, its root's table -/
def GenAt (W : World) (g : Nat) (M : Nat → Int) (ts : Int) (tab : Value) : Prop :=
  ∃ C : Array Value, W.heap[g]? = some (.cells C 129 (0, 0)) ∧ C[0]? = some (.string ⟨#[]⟩) ∧ C[1]? = some (.int .i64 0) ∧ C[2]? = some (.string ⟨#[]⟩) ∧ C[3]? = some (.pointer none) ∧ C[4]? = some tab ∧ C[5]? = some (.int .i64 ts) ∧ ∀ j, j < 256 → C[6 + j]? = some (.int .u8 (M j))

theorem GenAt.cell {W : World} {g : Nat} {M : Nat → Int} {ts : Int} {tab : Value} (h : GenAt W g M ts tab) {j : Nat} (hj : j < 256) : W.cell? ⟨g, 6 + j, none⟩ = some (.int .u8 (M j)) := by
  obtain ⟨C, hC, _, _, _, _, _, _, hM⟩ := h
  rw [Lib.cell_of_heap hC]; exact hM j hj
theorem GenAt.frozen {W : World} {g : Nat} {M : Nat → Int} {ts : Int} {tab : Value} (h : GenAt W g M ts tab) (j : Nat) : W.frozen? ⟨g, j, none⟩ = false := by
  obtain ⟨C, hC, _⟩ := h
  exact Lib.frozen_of_heap hC j
theorem GenAt.c2 {W : World} {g : Nat} {M : Nat → Int} {ts : Int} {tab : Value} (h : GenAt W g M ts tab) : W.cell? ⟨g, 2, none⟩ = some (.string ⟨#[]⟩) := by
  obtain ⟨C, hC, _, _, h2, _⟩ := h
  rw [Lib.cell_of_heap hC]; exact h2
theorem GenAt.c4 {W : World} {g : Nat} {M : Nat → Int} {ts : Int} {tab : Value} (h : GenAt W g M ts tab) : W.cell? ⟨g, 4, none⟩ = some tab := by
  obtain ⟨C, hC, _, _, _, _, h4, _⟩ := h
  rw [Lib.cell_of_heap hC]; exact h4
theorem GenAt.c5 {W : World} {g : Nat} {M : Nat → Int} {ts : Int} {tab : Value} (h : GenAt W g M ts tab) : W.cell? ⟨g, 5, none⟩ = some (.int .i64 ts) := by
  obtain ⟨C, hC, _, _, _, _, _, h5, _⟩ := h
  rw [Lib.cell_of_heap hC]; exact h5
theorem GenAt.c0 {W : World} {g : Nat} {M : Nat → Int} {ts : Int} {tab : Value} (h : GenAt W g M ts tab) : W.cell? ⟨g, 0, none⟩ = some (.string ⟨#[]⟩) := by
  obtain ⟨C, hC, h0, _⟩ := h
  rw [Lib.cell_of_heap hC]; exact h0
theorem GenAt.c1 {W : World} {g : Nat} {M : Nat → Int} {ts : Int} {tab : Value} (h : GenAt W g M ts tab) : W.cell? ⟨g, 1, none⟩ = some (.int .i64 0) := by
  obtain ⟨C, hC, _, h1, _⟩ := h
  rw [Lib.cell_of_heap hC]; exact h1
theorem GenAt.setM {W : World} {g : Nat} {M : Nat → Int} {ts : Int} {tab : Value} (h : GenAt W g M ts tab) (j : Nat) (x : Int) : GenAt (W.setCell ⟨g, 6 + j, none⟩ (.int .u8 x)) g (fun k => if k = j then x else M k) ts tab := by
  obtain ⟨C, hC, h0, h1, h2, h3, h4, h5, hM⟩ := h
  refine ⟨C.set! (6 + j) (.int .u8 x), by simp [World.setCell, Array.getElem?_modify, hC], ?_, ?_, ?_, ?_, ?_, ?_, ?_⟩
  · rw [Array.set!_eq_setIfInBounds, Array.getElem?_setIfInBounds, if_neg (by omega)]; exact h0
  · rw [Array.set!_eq_setIfInBounds, Array.getElem?_setIfInBounds, if_neg (by omega)]; exact h1
  · rw [Array.set!_eq_setIfInBounds, Array.getElem?_setIfInBounds, if_neg (by omega)]; exact h2
  · rw [Array.set!_eq_setIfInBounds, Array.getElem?_setIfInBounds, if_neg (by omega)]; exact h3
  · rw [Array.set!_eq_setIfInBounds, Array.getElem?_setIfInBounds, if_neg (by omega)]; exact h4
  · rw [Array.set!_eq_setIfInBounds, Array.getElem?_setIfInBounds, if_neg (by omega)]; exact h5
  · intro k hk
    rw [Array.set!_eq_setIfInBounds, Array.getElem?_setIfInBounds]
    have hs : 6 + k < C.size := (Array.getElem?_eq_some_iff.1 (hM k hk)).1
    by_cases e : k = j
    · subst e; rw [if_pos rfl, if_pos hs]; simp
    · rw [if_neg (by omega)]; simp only [if_neg e]; exact hM k hk
theorem GenAt.setTs {W : World} {g : Nat} {M : Nat → Int} {ts : Int} {tab : Value} (h : GenAt W g M ts tab) (x : Int) : GenAt (W.setCell ⟨g, 5, none⟩ (.int .i64 x)) g M x tab := by
  obtain ⟨C, hC, h0, h1, h2, h3, h4, h5, hM⟩ := h
  have hs : 5 < C.size := (Array.getElem?_eq_some_iff.1 h5).1
  refine ⟨C.set! 5 (.int .i64 x), by simp [World.setCell, Array.getElem?_modify, hC], ?_, ?_, ?_, ?_, ?_, ?_, ?_⟩
  · rw [Array.set!_eq_setIfInBounds, Array.getElem?_setIfInBounds, if_neg (by omega)]; exact h0
  · rw [Array.set!_eq_setIfInBounds, Array.getElem?_setIfInBounds, if_neg (by omega)]; exact h1
  · rw [Array.set!_eq_setIfInBounds, Array.getElem?_setIfInBounds, if_neg (by omega)]; exact h2
  · rw [Array.set!_eq_setIfInBounds, Array.getElem?_setIfInBounds, if_neg (by omega)]; exact h3
  · rw [Array.set!_eq_setIfInBounds, Array.getElem?_setIfInBounds, if_neg (by omega)]; exact h4
  · rw [Array.set!_eq_setIfInBounds, Array.getElem?_setIfInBounds, if_pos rfl, if_pos hs]
  · intro k hk
    rw [Array.set!_eq_setIfInBounds, Array.getElem?_setIfInBounds, if_neg (by omega)]; exact hM k hk
theorem GenAt.setTab {W : World} {g : Nat} {M : Nat → Int} {ts : Int} {tab : Value} (h : GenAt W g M ts tab) (x : Value) : GenAt (W.setCell ⟨g, 4, none⟩ x) g M ts x := by
  obtain ⟨C, hC, h0, h1, h2, h3, h4, h5, hM⟩ := h
  have hs : 4 < C.size := (Array.getElem?_eq_some_iff.1 h4).1
  refine ⟨C.set! 4 x, by simp [World.setCell, Array.getElem?_modify, hC], ?_, ?_, ?_, ?_, ?_, ?_, ?_⟩
  · rw [Array.set!_eq_setIfInBounds, Array.getElem?_setIfInBounds, if_neg (by omega)]; exact h0
  · rw [Array.set!_eq_setIfInBounds, Array.getElem?_setIfInBounds, if_neg (by omega)]; exact h1
  · rw [Array.set!_eq_setIfInBounds, Array.getElem?_setIfInBounds, if_neg (by omega)]; exact h2
  · rw [Array.set!_eq_setIfInBounds, Array.getElem?_setIfInBounds, if_neg (by omega)]; exact h3
  · rw [Array.set!_eq_setIfInBounds, Array.getElem?_setIfInBounds, if_pos rfl, if_pos hs]
  · rw [Array.set!_eq_setIfInBounds, Array.getElem?_setIfInBounds, if_neg (by omega)]; exact h5
  · intro k hk
    rw [Array.set!_eq_setIfInBounds, Array.getElem?_setIfInBounds, if_neg (by omega)]; exact hM k hk
theorem GenAt.new (w : World) : GenAt (w.alloc (.cells Tryz.zeroCells129 129)) w.heap.size (fun _ => 0) 0 (.slice none 0 0) := by
  refine ⟨_, heap_alloc_new w _, by kernel_rfl, by kernel_rfl, by kernel_rfl, by kernel_rfl, by kernel_rfl, by kernel_rfl, ?_⟩
  intro j hj
  have : ((List.range 256).all fun j => match Tryz.zeroCells129[6 + j]? with | some (.int .u8 n) => n == 0 | _ => false) = true := by kernel_rfl
  have h := List.all_eq_true.1 this j (List.mem_range.2 hj)
  generalize Tryz.zeroCells129[6 + j]? = q at *
  split at h
  · rw [beq_iff_eq] at h; rw [h]
  · cases h

section
variable {P : Program} {ops : Array Oper} {rest : List Oper} {o : Oper} {a : Act} {Q : Exit → Act → World → Prop} {W : World}
theorem gate_load {t : TypeId} {x : Operand} (_ho : o.op = .load t x) (h : wpList P ops Q (o :: rest) a W) : wpList P ops Q (o :: rest) a W := h
theorem wpList_load {t : TypeId} {x : Operand} {v : Value} (hg : o.guard = none) (ho : o.op = .load t x) (hl : (Instr.loadAt t (a.eval x)).run P W = .ok v W) (h : wpList P ops Q rest (a.put o.dst v) W) : wpList P ops Q (o :: rest) a W := by
  refine wpList_plain hg fun K hK => ?_
  unfold Oper.wp execOp
  simp only [ho, Sem.run_bind, Sem.run_pure, hl, Result.andThen_ok]
  exact hK _ _ h
end

/-- which bytes the keys have -/
def markF (j : Nat) : Int := if j = 158 then 1 else if j = 159 then 1 else if j = 186 then 1 else if j = 195 then 1 else if j = 225 then 1 else 0
/-- how many of them are below a number -/
def cntF : Nat → Int
  | 0 => 0
  | i + 1 => cntF i + markF i
theorem markF_01 (j : Nat) : markF j = 0 ∨ markF j = 1 := by
  unfold markF
  repeat' split
  all_goals simp
theorem cntF_le : ∀ i, 0 ≤ cntF i ∧ cntF i ≤ i
  | 0 => by simp [cntF]
  | i + 1 => by
    have := cntF_le i
    have := markF_01 i
    simp only [cntF]; omega
theorem cntF_5 (k : Nat) (hk : k < 257) : cntF k ≤ 5 := by
  have : ((List.range 257).all fun j => decide (cntF j ≤ 5)) = true := by decide +kernel
  have h := List.all_eq_true.1 this k (List.mem_range.2 hk)
  exact of_decide_eq_true h
theorem cntF_all : cntF 256 = 5 := by decide +kernel
theorem mapF_of (j : Nat) (hj : j < 256) : mapF j = if markF j = 0 then 5 else cntF j := by
  have : ((List.range 256).all fun j => mapF j == if markF j = 0 then 5 else cntF j) = true := by decide +kernel
  have h := List.all_eq_true.1 this j (List.mem_range.2 hj)
  exact beq_iff_eq.1 h

theorem GenAt.congr {W : World} {g : Nat} {M M' : Nat → Int} {ts : Int} {tab : Value} (h : GenAt W g M ts tab) (hM : ∀ j, j < 256 → M j = M' j) : GenAt W g M' ts tab := by
  obtain ⟨C, hC, h0, h1, h2, h3, h4, h5, hm⟩ := h
  exact ⟨C, hC, h0, h1, h2, h3, h4, h5, fun j hj => by rw [← hM j hj]; exact hm j hj⟩

theorem GenAt.drewN {W : World} {g : Nat} {M : Nat → Int} {ts : Int} {tab : Value} (h : GenAt W g M ts tab) (n : Nat) : GenAt (W.drewN n) g M ts tab := h

/-- the mapping, read as one value -/
theorem GenAt.load {W : World} {g : Nat} {M : Nat → Int} {ts : Int} {tab : Value} (h : GenAt W g M ts tab) :
    ∃ A1 : Array Value, (∀ i, i < 256 → A1[i]? = some (.int .u8 (M i))) ∧ (Instr.loadAt 98 (.pointer (some ⟨g, 6, none⟩))).run Tryz.prog W = .ok (.agg A1) W := by
  obtain ⟨ia, hia, _, hsa, _⟩ := info_parts (P := Tryz.prog) (e := 98) (z := .agg (Array.replicate 256 (.int .u8 0))) (size := 256) (bytes := 256) (by kernel_rfl)
  have hagg : ∀ w, (isAgg 98).run Tryz.prog w = .ok true w := fun _ => by kernel_rfl
  refine ⟨((List.range 256).map fun j => Value.int .u8 (M j)).toArray, ?_, ?_⟩
  · intro i hi
    simp [hi]
  · have := rl_loadVar_cells (P := Tryz.prog) 98 ia hia hagg g 6 ((List.range 256).map fun j => Value.int .u8 (M j)) (by simp [hsa]) W (by
      intro k v hv
      have hk : k < 256 := by
        have := (List.getElem?_eq_some_iff.1 hv).1
        simpa using this
      have h2 := h.cell hk
      simp [hk] at hv
      rw [h2, ← hv])
    simp [Instr.loadAt, Instr.sureAddr, this]

theorem index_arr (A1 : Array Value) (i : Nat) (x : Value) (hi : i < 256) (hx : A1[i]? = some x) (W : World) : (Instr.index 98 (.agg A1) (.int .i64 (i : Int))).run Tryz.prog W = .ok x W := by
  have h1 : ∀ w, (isAgg 5).run Tryz.prog w = .ok false w := fun _ => by kernel_rfl
  have h2 : ∀ w, (sizeOf 5).run Tryz.prog w = .ok 1 w := fun _ => by kernel_rfl
  simp [Instr.index, go_sem, part, h1, h2, hx, hi]

theorem GenAt.alloc {W : World} {g : Nat} {M : Nat → Int} {ts : Int} {tab : Value} (h : GenAt W g M ts tab) (o : Obj) : GenAt (W.alloc o) g M ts tab := by
  obtain ⟨C, hC, hr⟩ := h
  exact ⟨C, (Below.heap_alloc W o g (Array.getElem?_eq_some_iff.1 hC).1).trans hC, hr⟩

/-- a trie whose other blocks lie above the replacer's -/
def TrieAbove (w : World) (g : Nat) : Prop := ∃ t n1 n2 n3 n4, Trie w g t n1 n2 n3 n4 ∧ g < t ∧ g < n1 ∧ g < n2 ∧ g < n3 ∧ g < n4

theorem TrieAbove.other {w w' : World} {g b : Nat} (h : TrieAbove w g) (hb : b < g) (hk : ∀ a : Addr, a.block ≠ b → w'.cell? a = w.cell? a) : TrieAbove w' g := by
  obtain ⟨t, n1, n2, n3, n4, T, ht, h1, h2, h3, h4⟩ := h
  refine ⟨t, n1, n2, n3, n4, ?_, ht, h1, h2, h3, h4⟩
  have k : ∀ n, g ≤ n → ∀ j, w'.cell? ⟨n, j, none⟩ = w.cell? ⟨n, j, none⟩ := fun n hn j => hk _ (by show n ≠ b; omega)
  exact {
    rv := (k g (by omega) _).trans T.rv
    rp := (k g (by omega) _).trans T.rp
    rt := (k g (by omega) _).trans T.rt
    sz := (k g (by omega) _).trans T.sz
    mp := fun j hj => (k g (by omega) _).trans (T.mp j hj)
    t0 := (k t (by omega) _).trans T.t0
    t1 := (k t (by omega) _).trans T.t1
    t2 := (k t (by omega) _).trans T.t2
    t3 := (k t (by omega) _).trans T.t3
    t4 := (k t (by omega) _).trans T.t4
    a1 := (k n1 (by omega) _).trans T.a1
    a2 := (k n1 (by omega) _).trans T.a2
    a3 := (k n1 (by omega) _).trans T.a3
    a4 := (k n1 (by omega) _).trans T.a4
    b0 := (k n2 (by omega) _).trans T.b0
    b1 := (k n2 (by omega) _).trans T.b1
    b2 := (k n2 (by omega) _).trans T.b2
    b4 := (k n2 (by omega) _).trans T.b4
    c1 := (k n3 (by omega) _).trans T.c1
    c2 := (k n3 (by omega) _).trans T.c2
    c3 := (k n3 (by omega) _).trans T.c3
    c4 := (k n3 (by omega) _).trans T.c4
    d0 := (k n4 (by omega) _).trans T.d0
    d1 := (k n4 (by omega) _).trans T.d1
    d2 := (k n4 (by omega) _).trans T.d2
    d4 := (k n4 (by omega) _).trans T.d4 }

theorem trie_of {V w2 w3 : World} {g t : Nat} (hG : GenAt V g mapF 5 (.slice (some ⟨t, 0, none⟩) 5 5)) (hg : g < V.heap.size) (ht : t < V.heap.size) (hgt : g ≠ t)
    (hT : ∀ j, j < 5 → V.cell? ⟨t, j, none⟩ = some (.pointer none)) (a : Added V w2 t 3 ⟨#[159]⟩ ⟨#[115, 115]⟩ 4) (b : Added w2 w3 t 4 ⟨#[186, 158]⟩ ⟨#[115, 115]⟩ 2) :
    Trie w3 g t V.heap.size (V.heap.size + 1) (V.heap.size + 2) (V.heap.size + 3) := by
  have hz := a.size
  have gc : ∀ (j : Nat) (v : Value), V.cell? ⟨g, j, none⟩ = some v → w3.cell? ⟨g, j, none⟩ = some v := by
    intro j v h
    rw [b.cell _ (by show g < w2.heap.size; omega) (by intro e; injection e with e1; exact hgt e1), a.cell _ hg (by intro e; injection e with e1; exact hgt e1)]
    exact h
  have tc : ∀ (j : Nat) (v : Value), j ≠ 3 → j ≠ 4 → V.cell? ⟨t, j, none⟩ = some v → w3.cell? ⟨t, j, none⟩ = some v := by
    intro j v h3 h4 h
    rw [b.cell _ (by show t < w2.heap.size; omega) (by intro e; injection e with e1 e2; exact h4 e2), a.cell _ ht (by intro e; injection e with e1 e2; exact h3 e2)]
    exact h
  have nc : ∀ (n j : Nat) (v : Value), n < w2.heap.size → n ≠ t → w2.cell? ⟨n, j, none⟩ = some v → w3.cell? ⟨n, j, none⟩ = some v := by
    intro n j v hn hnt h
    rw [b.cell _ hn (by intro e; injection e with e1; exact hnt e1)]
    exact h
  have hb0 := b.a1
  have e2 : V.heap.size + 2 = w2.heap.size := hz.symm
  have e3 : V.heap.size + 3 = w2.heap.size + 1 := by omega
  exact {
    rv := gc 0 _ hG.c0
    rp := gc 1 _ hG.c1
    rt := gc 4 _ hG.c4
    sz := gc 5 _ hG.c5
    mp := fun j hj => gc (6 + j) _ (hG.cell hj)
    t0 := tc 0 _ (by decide) (by decide) (hT 0 (by omega))
    t1 := tc 1 _ (by decide) (by decide) (hT 1 (by omega))
    t2 := tc 2 _ (by decide) (by decide) (hT 2 (by omega))
    t3 := by
      rw [b.cell _ (by show t < w2.heap.size; omega) (by intro e; injection e with e1 e2; omega)]
      exact a.tm
    t4 := by rw [e2]; exact b.tm
    a1 := nc _ 1 _ (by omega) (by omega) a.a1
    a2 := nc _ 2 _ (by omega) (by omega) a.a2
    a3 := nc _ 3 _ (by omega) (by omega) a.a3
    a4 := nc _ 4 _ (by omega) (by omega) a.a4
    b0 := nc _ 0 _ (by omega) (by omega) a.b0
    b1 := nc _ 1 _ (by omega) (by omega) a.b1
    b2 := nc _ 2 _ (by omega) (by omega) a.b2
    b4 := nc _ 4 _ (by omega) (by omega) a.b4
    c1 := by rw [e2]; exact b.a1
    c2 := by rw [e2]; exact b.a2
    c3 := by rw [e2, e3]; exact b.a3
    c4 := by rw [e2]; exact b.a4
    d0 := by rw [e3]; exact b.b0
    d1 := by rw [e3]; exact b.b1
    d2 := by rw [e3]; exact b.b2
    d4 := by rw [e3]; exact b.b4 }

set_option maxHeartbeats 4000000 in
set_option maxRecDepth 1000000 in
theorem make_trie (o cap : Nat) (w : World) (o0 : w.cell? ⟨o, 0, none⟩ = some (.string ⟨#[195, 159]⟩)) (o1 : w.cell? ⟨o, 1, none⟩ = some (.string ⟨#[115, 115]⟩)) (o2 : w.cell? ⟨o, 2, none⟩ = some (.string ⟨#[225, 186, 158]⟩)) (o3 : w.cell? ⟨o, 3, none⟩ = some (.string ⟨#[115, 115]⟩)) (ho : o < w.heap.size) :
    Calls Tryz.prog 67 #[.slice (some ⟨o, 0, none⟩) 4 cap] w fun e w' => e = .returned (.pointer (some ⟨w.heap.size, 0, none⟩)) ∧ TrieAbove w' w.heap.size ∧ Below w.heap.size w w' := by
  have HO0 := Lib.hid o0
  have HO1 := Lib.hid o1
  have HO2 := Lib.hid o2
  have HO3 := Lib.hid o3
  go_enter Tryz.func67, Tryz.ntmps67
  go_upto_region 2 with (fail)
  have G0 := GenAt.new w
  have hb0 : Below w.heap.size w (w.alloc (.cells Tryz.zeroCells129 129)) := (Below.refl _ w).alloc (Nat.le_refl _) _
  obtain ⟨W, hW⟩ : ∃ W, w.alloc (.cells Tryz.zeroCells129 129) = W := ⟨_, rfl⟩
  rw [hW] at G0 hb0 ⊢
  rw [← hb0.cell (p := ⟨o, 0, none⟩) ho] at o0
  rw [← hb0.cell (p := ⟨o, 1, none⟩) ho] at o1
  rw [← hb0.cell (p := ⟨o, 2, none⟩) ho] at o2
  rw [← hb0.cell (p := ⟨o, 3, none⟩) ho] at o3
  have hog : ¬ w.heap.size = o := by omega
  have c1 : W.cell? ⟨w.heap.size, 201, none⟩ = some (.int .u8 0) := G0.cell (j := 195) (by omega)
  have c2 : W.cell? ⟨w.heap.size, 165, none⟩ = some (.int .u8 0) := G0.cell (j := 159) (by omega)
  have c3 : W.cell? ⟨w.heap.size, 231, none⟩ = some (.int .u8 0) := G0.cell (j := 225) (by omega)
  have c4 : W.cell? ⟨w.heap.size, 192, none⟩ = some (.int .u8 0) := G0.cell (j := 186) (by omega)
  have c5 : W.cell? ⟨w.heap.size, 164, none⟩ = some (.int .u8 0) := G0.cell (j := 158) (by omega)
  have f1 := G0.frozen 201
  have f2 := G0.frozen 165
  have f3 := G0.frozen 231
  have f4 := G0.frozen 192
  have f5 := G0.frozen 164
  have l1 : ∀ h : 0 < (⟨#[195, 159]⟩ : ByteArray).size, (⟨#[195, 159]⟩ : ByteArray)[0]'h = 195 := fun _ => rfl
  have l2 : ∀ h : 1 < (⟨#[195, 159]⟩ : ByteArray).size, (⟨#[195, 159]⟩ : ByteArray)[1]'h = 159 := fun _ => rfl
  have l3 : ∀ h : 0 < (⟨#[225, 186, 158]⟩ : ByteArray).size, (⟨#[225, 186, 158]⟩ : ByteArray)[0]'h = 225 := fun _ => rfl
  have l4 : ∀ h : 1 < (⟨#[225, 186, 158]⟩ : ByteArray).size, (⟨#[225, 186, 158]⟩ : ByteArray)[1]'h = 186 := fun _ => rfl
  have l5 : ∀ h : 2 < (⟨#[225, 186, 158]⟩ : ByteArray).size, (⟨#[225, 186, 158]⟩ : ByteArray)[2]'h = 158 := fun _ => rfl
  have HG := Lib.hid G0
  clear hW G0
  go_wp2
  refine wp_loop_rounds 3 ?_
  rw [rounds_succ]
  go_wp2
  refine wp_loop_rounds 3 ?_
  rw [rounds_succ]
  go_wp2
  go_region
  go_wp2
  rw [rounds_succ]
  go_wp2
  go_region
  go_wp2
  rw [rounds_succ]
  go_wp2
  rw [rounds_succ]
  go_wp2
  refine wp_loop_rounds 4 ?_
  rw [rounds_succ]
  go_wp2
  go_region
  go_wp2
  rw [rounds_succ]
  go_wp2
  go_region
  go_wp2
  rw [rounds_succ]
  go_wp2
  go_region
  go_wp2
  rw [rounds_succ]
  go_wp2
  rw [rounds_succ]
  go_upto_region 10 with (fail)
  have G1 := (((((HG.out.setM 195 1).setM 159 1).setM 225 1).setM 186 1).setM 158 1).congr (M' := markF) (by
    intro j _
    unfold markF
    by_cases e1 : j = 158
    · simp [e1]
    · by_cases e2 : j = 159
      · simp [e2]
      · by_cases e3 : j = 186
        · simp [e3]
        · by_cases e4 : j = 195
          · simp [e4]
          · by_cases e5 : j = 225
            · simp [e5]
            · simp [e1, e2, e3, e4, e5])
  have hb1 := ((((hb0.setCell (p := ⟨w.heap.size, 201, none⟩) (Nat.le_refl _) (.int .u8 1)).setCell (p := ⟨w.heap.size, 165, none⟩) (Nat.le_refl _) (.int .u8 1)).setCell (p := ⟨w.heap.size, 231, none⟩) (Nat.le_refl _) (.int .u8 1)).setCell (p := ⟨w.heap.size, 192, none⟩) (Nat.le_refl _) (.int .u8 1)).setCell (p := ⟨w.heap.size, 164, none⟩) (Nat.le_refl _) (.int .u8 1)
  clear c1 c2 c3 c4 c5 f1 f2 f3 f4 f5 l1 l2 l3 l4 l5 HG o0 o1 o2 o3 hb0
  have G2 := GenAt.drewN G1 5
  have hb2 := aid.below_drewN hb1 5
  clear G1 hb1
  obtain ⟨W1, hW1⟩ : ∃ W1, (((((W.setCell ⟨w.heap.size, 201, none⟩ (.int .u8 1)).setCell ⟨w.heap.size, 165, none⟩ (.int .u8 1)).setCell ⟨w.heap.size, 231, none⟩ (.int .u8 1)).setCell ⟨w.heap.size, 192, none⟩ (.int .u8 1)).setCell ⟨w.heap.size, 164, none⟩ (.int .u8 1)).drew.drew.drew.drew.drew = W1 := ⟨_, rfl⟩
  have G3 : GenAt W1 w.heap.size markF 0 (.slice none 0 0) := by rw [← hW1]; exact G2
  have hb3 : Below w.heap.size w W1 := by rw [← hW1]; exact hb2
  rw [hW1]
  clear G2 hb2 hW1
  obtain ⟨A1, hA1, hld⟩ := G3.load
  have HA1 := Lib.hid hA1
  clear hA1
  go_wp2_with ((with_reducible refine gate_load (t := 98) (x := .tmp 39) rfl ?_); refine wpList_load rfl rfl hld ?_)
  go_loopg [41] 256 (fun gk i wx => ∃ k : Nat, i = .int .i64 k ∧ k + gk = 256 ∧ GenAt wx w.heap.size markF (cntF k) (.slice none 0 0) ∧ Below w.heap.size w wx)
  case atStart => exact ⟨0, rfl, rfl, G3, hb3⟩
  case round =>
    obtain ⟨k, rfl, hk, hG, hB⟩ := hrel
    cases gk with
    | zero =>
      obtain rfl : k = 256 := by omega
      rw [cntF_all] at hG
      obtain ⟨A2, hA2, hld2⟩ := hG.load
      have HA2 := Lib.hid hA2
      have HGn := Lib.hid (hG.congr (M' := fun j => if j < 0 then mapF j else markF j) (fun j _ => by simp))
      clear hA2 hG hld
      go_wp2_with ((with_reducible refine gate_load (t := 98) (x := .tmp 56) rfl ?_); refine wpList_load rfl rfl hld2 ?_)
      go_loopg [58, 9] 256 (fun gk i ix wx => ∃ k : Nat, i = .int .i64 k ∧ ix = .int .u8 (cntF k) ∧ k + gk = 256 ∧ GenAt wx w.heap.size (fun j => if j < k then mapF j else markF j) 5 (.slice none 0 0) ∧ Below w.heap.size w wx)
      case atStart => exact ⟨0, rfl, rfl, rfl, HGn.out, hB⟩
      case round =>
        clear hld2 hB HGn HA1
        obtain ⟨k, rfl, rfl, hk, hG, hB⟩ := hrel
        cases gk with
        | zero =>
          obtain rfl : k = 256 := by omega
          have hG := hG.congr (M' := mapF) (fun j hj => by simp [hj])
          have hc5 := hG.c5
          have hc4 := hG.c4
          have hf4 := hG.frozen 4
          have HG := Lib.hid hG
          clear hG
          obtain ⟨ip, hip, hpz, hps, hpb⟩ := info_parts (P := Tryz.prog) (e := 124) (z := .pointer none) (size := 1) (bytes := 8) (by kernel_rfl)
          have hms := run_makeSlice (P := Tryz.prog) wr 125 124 ip (.pointer none) Tryz.underlying125 hip hpz .i64 .i64 5 5 (by omega) (by omega) (by rw [hps]; decide) (by rw [hpb]; decide) (by omega)
          have hmc : madeCells (Value.pointer none).cells ((5 : Int).toNat * ip.size) = #[.pointer none, .pointer none, .pointer none, .pointer none, .pointer none] := by rw [hps]; kernel_rfl
          rw [hmc] at hms
          have hglt : w.heap.size < wr.heap.size := by obtain ⟨C, hC, _⟩ := HG.out; exact (Array.getElem?_eq_some_iff.1 hC).1
          have CTA := ((World.cell?_of_block (w := wr) (w' := wr.alloc (.cells #[.pointer none, .pointer none, .pointer none, .pointer none, .pointer none] 124)) (a := ⟨w.heap.size, 4, none⟩) (Below.heap_alloc wr _ _ hglt))).trans hc4
          have FTA := ((World.frozen?_of_block (w := wr) (w' := wr.alloc (.cells #[.pointer none, .pointer none, .pointer none, .pointer none, .pointer none] 124)) (a := ⟨w.heap.size, 4, none⟩) (Below.heap_alloc wr _ _ hglt))).trans hf4
          clear hip hpz hps hpb hmc
          go_upto_region 25 with (fail)
          obtain ⟨V, hV⟩ : ∃ V, (wr.setCell ⟨w.heap.size, 4, none⟩ (.slice (some ⟨wr.heap.size, 0, none⟩) 5 5)).alloc (.cells #[.pointer none, .pointer none, .pointer none, .pointer none, .pointer none] 124) = V := ⟨_, rfl⟩
          have GV : GenAt V w.heap.size mapF 5 (.slice (some ⟨wr.heap.size, 0, none⟩) 5 5) := by rw [← hV]; exact (HG.out.setTab _).alloc _
          have hVb : Below w.heap.size w V := by rw [← hV]; exact (hB.setCell (p := ⟨w.heap.size, 4, none⟩) (Nat.le_refl _) _).alloc (by simp [World.setCell]; omega) _
          have hVz : V.heap.size = wr.heap.size + 1 := by rw [← hV]; simp [World.alloc, World.setCell]
          have hVh : V.heap[wr.heap.size]? = some (.cells #[.pointer none, .pointer none, .pointer none, .pointer none, .pointer none] 124 (0, 0)) := by
            rw [← hV]
            have := heap_alloc_new (wr.setCell ⟨w.heap.size, 4, none⟩ (.slice (some ⟨wr.heap.size, 0, none⟩) 5 5)) (.cells #[.pointer none, .pointer none, .pointer none, .pointer none, .pointer none] 124)
            have hz : (wr.setCell ⟨w.heap.size, 4, none⟩ (.slice (some ⟨wr.heap.size, 0, none⟩) 5 5)).heap.size = wr.heap.size := by simp [World.setCell]
            rwa [hz] at this
          have hVt : ∀ j, j < 5 → V.cell? ⟨wr.heap.size, j, none⟩ = some (.pointer none) := by
            intro j hj
            rw [Lib.cell_of_heap hVh]
            obtain rfl | rfl | rfl | rfl | rfl : j = 0 ∨ j = 1 ∨ j = 2 ∨ j = 3 ∨ j = 4 := by omega
            all_goals rfl
          rw [hV]
          clear hV CTA FTA hms hc5 hc4 hf4
          have HL1 := add_root w.heap.size wr.heap.size 3 195 [159] ⟨#[195, 159]⟩ ⟨#[115, 115]⟩ 4 V.drew rfl (by simp) (by decide) (by omega) (show w.heap.size < V.heap.size by omega) (show wr.heap.size < V.heap.size by omega) GV.c2 GV.c4 (GV.cell (j := 195) (by omega)) (hVt 3 (by omega)) (Lib.frozen_of_heap hVh 3)
          have v0 : V.cell? ⟨o, 0, none⟩ = some (.string ⟨#[195, 159]⟩) := (hVb.cell ho).trans HO0.out
          have v1 : V.cell? ⟨o, 1, none⟩ = some (.string ⟨#[115, 115]⟩) := (hVb.cell ho).trans HO1.out
          rw [show (⟨#[195, 159]⟩ : ByteArray).extract 1 (⟨#[195, 159]⟩ : ByteArray).size = ⟨#[159]⟩ by rw [extract_list]; rfl] at HL1
          have HVt := Lib.hid hVt
          have HHB := Lib.hid hB
          clear hVt hB
          generalize hT0 : wr.heap.size = T0 at *
          have hlt1 : w.heap.size < V.heap.size := by omega
          have hlt2 : T0 < V.heap.size := by omega
          go_wp2
          go_loopg [12] 2 (fun gk i wx => (gk = 2 ∧ i = .int .i64 0 ∧ wx = V) ∨ (gk = 1 ∧ i = .int .i64 2 ∧ Added V wx T0 3 ⟨#[159]⟩ ⟨#[115, 115]⟩ 4) ∨ (gk = 0 ∧ i = .int .i64 4 ∧ ∃ w2, Added V w2 T0 3 ⟨#[159]⟩ ⟨#[115, 115]⟩ 4 ∧ Added w2 wx T0 4 ⟨#[186, 158]⟩ ⟨#[115, 115]⟩ 2))
          case atStart => exact .inl ⟨rfl, rfl, rfl⟩
          case round =>
            rcases hrel with ⟨rfl, rfl, rfl⟩ | ⟨rfl, rfl, ha⟩ | ⟨rfl, rfl, w2, ha, hb⟩
            · go_wp2
              go_region_with (go_at_call 73; refine HL1.mono ?_; rintro e w2 ⟨rfl, ha⟩)
              all_goals (go_wp2; go_roundg 1)
              all_goals first | omega | exact .inr (.inl ⟨rfl, rfl, ha.undrew⟩)
            · clear HL1 v0 v1
              have hVw := ha.size
              have hne : ∀ j : Nat, (⟨w.heap.size, j, none⟩ : Addr) ≠ ⟨T0, 3, none⟩ := by intro j e; injection e with e1; omega
              have hnt : (⟨T0, 4, none⟩ : Addr) ≠ ⟨T0, 3, none⟩ := by intro e; injection e with e1 e2; omega
              have hno : ∀ j : Nat, (⟨o, j, none⟩ : Addr) ≠ ⟨T0, 3, none⟩ := by intro j e; injection e with e1; omega
              have HL2 := add_root w.heap.size T0 4 225 [186, 158] ⟨#[225, 186, 158]⟩ ⟨#[115, 115]⟩ 2 wr.drew rfl (by simp) (by decide) (by omega) (show w.heap.size < wr.heap.size by omega) (show T0 < wr.heap.size by omega) ((ha.cell _ hlt1 (hne 2)).trans GV.c2) ((ha.cell _ hlt1 (hne 4)).trans GV.c4) ((ha.cell _ hlt1 (hne _)).trans (GV.cell (j := 225) (by omega))) ((ha.cell _ hlt2 hnt).trans (HVt.out 4 (by omega))) ((ha.frozen _ hlt2).trans (Lib.frozen_of_heap hVh 4))
              rw [show (⟨#[225, 186, 158]⟩ : ByteArray).extract 1 (⟨#[225, 186, 158]⟩ : ByteArray).size = ⟨#[186, 158]⟩ by rw [extract_list]; rfl] at HL2
              have x2 : wr.cell? ⟨o, 2, none⟩ = some (.string ⟨#[225, 186, 158]⟩) := (ha.cell _ (show o < V.heap.size by omega) (hno 2)).trans ((hVb.cell ho).trans HO2.out)
              have x3 : wr.cell? ⟨o, 3, none⟩ = some (.string ⟨#[115, 115]⟩) := (ha.cell _ (show o < V.heap.size by omega) (hno 3)).trans ((hVb.cell ho).trans HO3.out)
              have HA := Lib.hid ha
              clear ha hne hnt hno
              go_wp2
              go_region_with (go_at_call 73; refine HL2.mono ?_; rintro e w2 ⟨rfl, hb⟩)
              all_goals (go_wp2; go_roundg 0)
              all_goals first | omega | exact .inr (.inr ⟨rfl, rfl, _, HA.out, hb.undrew⟩)
            · clear HL1 v0 v1
              have HA := Lib.hid ha
              have HBB := Lib.hid hb
              clear ha hb
              go_wp2
              go_ret
              exact ⟨rfl, ⟨_, _, _, _, _, trie_of GV hlt1 hlt2 (by omega) HVt.out HA.out HBB.out, by omega, by omega, by omega, by omega, by omega⟩, (hVb.trans (HA.out.below _ (by omega) (by omega))).trans (HBB.out.below _ (by omega) (by have := HA.out.size; omega))⟩
        | succ k1 =>
          have hlt : (k : Int) < 256 := by omega
          have hlt' : k < 256 := by omega
          have hix := fun W => index_arr A2 k _ (by omega) (HA2.out k (by omega)) W
          have hc5 := hG.c5
          have hck := hG.cell hlt'
          have hfk := hG.frozen (6 + k)
          have hcn : cntF (k + 1) = cntF k + markF k := rfl
          have hcl := cntF_le k
          have hc4 := cntF_5 k (by omega)
          have hmp := mapF_of k hlt'
          have hml := markF_01 k
          simp only [Nat.lt_irrefl, if_false] at hck
          have HG := Lib.hid hG
          have HCN := Lib.hid hcn
          have HMP := Lib.hid hmp
          clear hG hcn hmp
          rcases hml with hml | hml
          · rw [hml] at hix hck
            have hb0 : ((0 : Int) == 0) = true := rfl
            go_wp2
            go_region
            go_wp2
            go_roundg k1
            case rel => exact ⟨k + 1, by simp, by rw [HCN.out, hml]; simp, by omega, (GenAt.drewN (HG.out.setM k 5) 1).congr (fun j hj => by
              by_cases e : j = k
              · subst e; rw [if_pos rfl, if_pos (by omega), HMP.out, if_pos hml]
              · rw [if_neg e]
                by_cases e2 : j < k
                · rw [if_pos e2, if_pos (by omega)]
                · rw [if_neg e2, if_neg (by omega)]), aid.below_drewN (hB.setCell (p := ⟨w.heap.size, 6 + k, none⟩) (Nat.le_refl _) _) 1⟩
            case measure => omega
          · rw [hml] at hix hck
            have hb0 : ((1 : Int) == 0) = false := rfl
            go_wp2
            go_roundg k1
            case rel => exact ⟨k + 1, by simp, by rw [HCN.out, hml], by omega, (HG.out.setM k (cntF k)).congr (fun j hj => by
              by_cases e : j = k
              · subst e; rw [if_pos rfl, if_pos (by omega), HMP.out, if_neg (by omega)]
              · rw [if_neg e]
                by_cases e2 : j < k
                · rw [if_pos e2, if_pos (by omega)]
                · rw [if_neg e2, if_neg (by omega)]), hB.setCell (p := ⟨w.heap.size, 6 + k, none⟩) (Nat.le_refl _) _⟩
            case measure => omega
    | succ k1 =>
      have hlt : (k : Int) < 256 := by omega
      have hix := fun W => index_arr A1 k _ (by omega) (HA1.out k (by omega)) W
      have hc5 := hG.c5
      have hf5 := hG.frozen 5
      have hcn : cntF (k + 1) = cntF k + markF k := rfl
      have hcl := cntF_le k
      have hml := markF_01 k
      have HG := Lib.hid hG
      have HCN := Lib.hid hcn
      clear hG hcn
      generalize cntF k = c at *
      generalize markF k = m at *
      have hm0 : 0 ≤ m := by omega
      have hm1 : m ≤ 1 := by omega
      have hc0 : 0 ≤ c := by omega
      have hc1 : c ≤ 256 := by omega
      clear hcl hml
      go_wp2
      go_roundg k1
      case rel => exact ⟨k + 1, by simp, by omega, by rw [HCN.out]; exact HG.out.setTs _, hB.setCell (p := ⟨w.heap.size, 5, none⟩) (Nat.le_refl _) _⟩
      case measure => omega
end Go.Proofs.YtokmmkeoodgodaaGreatDoor
