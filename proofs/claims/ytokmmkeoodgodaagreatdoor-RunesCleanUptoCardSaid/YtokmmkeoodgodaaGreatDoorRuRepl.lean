/-
  strings.NewReplacer at the four texts of runes.Fold, and its Replace: every "ß" and "ẞ" is replaced.
-/
import Derived.Test.YtokmmkeoodgodaaGreatDoorRuOnce
namespace Go.Proofs.YtokmmkeoodgodaaGreatDoor
open Go.RowKit Go.Lib Go.Proofs.YtokmmkeoodgodaaGreatDoorW.PrintWords Go.Proofs.YtokmmkeoodgodaaGreatDoorW.PrintMore

theorem lt_of_cell {w : World} {b j : Nat} {v : Value} (h : w.cell? ⟨b, j, none⟩ = some v) : b < w.heap.size := by
  unfold World.cell? at h
  rcases Nat.lt_or_ge b w.heap.size with h1 | h1
  · exact h1
  · simp [Array.getElem?_eq_none h1] at h

set_option maxHeartbeats 2000000 in
set_option maxRecDepth 1000000 in
theorem build_any (b o cap : Nat) (w : World) (h4 : w.cell? ⟨b, 4, none⟩ = some (.slice (some ⟨o, 0, none⟩) 4 cap)) (o0 : w.cell? ⟨o, 0, none⟩ = some (.string ⟨#[195, 159]⟩)) (o1 : w.cell? ⟨o, 1, none⟩ = some (.string ⟨#[115, 115]⟩)) (o2 : w.cell? ⟨o, 2, none⟩ = some (.string ⟨#[225, 186, 158]⟩)) (o3 : w.cell? ⟨o, 3, none⟩ = some (.string ⟨#[115, 115]⟩)) :
    Calls Tryz.prog 56 #[.pointer (some ⟨b, 0, none⟩)] w fun e w' => e = .returned (.iface 109 (.pointer (some ⟨w.heap.size, 0, none⟩))) ∧ TrieAbove w' w.heap.size ∧ Below w.heap.size w w' := by
  have HM := make_trie o cap w o0 o1 o2 o3 (lt_of_cell o0)
  go_enter Tryz.func56, Tryz.ntmps56
  go_wp2
  refine wp_loop_rounds 1 ?_
  rw [rounds_succ]
  go_wp2_with (go_at_call 67; refine HM.mono ?_; rintro e w2 ⟨rfl, ht, hb⟩)
  go_ret
  exact ⟨rfl, ht, hb⟩

set_option maxHeartbeats 2000000 in
set_option maxRecDepth 1000000 in
theorem build_once (b o cap : Nat) (x3 : Value) (w : World) (h3 : w.cell? ⟨b, 3, none⟩ = some x3) (h4 : w.cell? ⟨b, 4, none⟩ = some (.slice (some ⟨o, 0, none⟩) 4 cap)) (f3 : w.frozen? ⟨b, 3, none⟩ = false) (f4 : w.frozen? ⟨b, 4, none⟩ = false) (o0 : w.cell? ⟨o, 0, none⟩ = some (.string ⟨#[195, 159]⟩)) (o1 : w.cell? ⟨o, 1, none⟩ = some (.string ⟨#[115, 115]⟩)) (o2 : w.cell? ⟨o, 2, none⟩ = some (.string ⟨#[225, 186, 158]⟩)) (o3 : w.cell? ⟨o, 3, none⟩ = some (.string ⟨#[115, 115]⟩)) :
    Calls Tryz.prog 43 #[.pointer (some ⟨b, 0, none⟩)] w fun e w' => e = .returned (.tuple #[]) ∧ ∃ u : World, TrieAbove u w.heap.size ∧ Below w.heap.size w u ∧ w' = (u.setCell ⟨b, 3, none⟩ (.iface 109 (.pointer (some ⟨w.heap.size, 0, none⟩)))).setCell ⟨b, 4, none⟩ (.slice none 0 0) := by
  have HB := build_any b o cap w h4 o0 o1 o2 o3
  have hlt := lt_of_cell h3
  go_enter Tryz.func43, Tryz.ntmps43
  go_wp2_with (go_at_call 56; refine HB.mono ?_; rintro e w2 ⟨rfl, ht, hb⟩; have c3 := (hb.cell (p := ⟨b, 3, none⟩) hlt).trans h3; have c4 := (hb.cell (p := ⟨b, 4, none⟩) hlt).trans h4; have z3 := (hb.frozen (p := ⟨b, 3, none⟩) hlt).trans f3; have z4 := (hb.frozen (p := ⟨b, 4, none⟩) hlt).trans f4)
  go_end0
  exact ⟨rfl, w2, ht, hb, rfl⟩

/-- a replacer of the four texts, as NewReplacer lays it -/
def NewRep (w : World) (b : Nat) : Prop := ∃ o cap : Nat, w.heap[b]? = some (.cells #[.int .u32 0, .int .i32 0, .int .u32 0, .nilIface, .slice (some ⟨o, 0, none⟩) 4 cap] 84 (0, 0)) ∧ o ≠ b ∧ w.cell? ⟨o, 0, none⟩ = some (.string ⟨#[195, 159]⟩) ∧ w.cell? ⟨o, 1, none⟩ = some (.string ⟨#[115, 115]⟩) ∧ w.cell? ⟨o, 2, none⟩ = some (.string ⟨#[225, 186, 158]⟩) ∧ w.cell? ⟨o, 3, none⟩ = some (.string ⟨#[115, 115]⟩)

set_option maxHeartbeats 4000000 in
set_option maxRecDepth 1000000 in
theorem replace_any (b B : Nat) (s : ByteArray) (w : World) (hR : NewRep w b) (hB : B ≤ b) (hz : s.size ≤ 268435456) :
    Calls Tryz.prog 28 #[.pointer (some ⟨b, 0, none⟩), .string s] w fun e w' => e = .returned (.string (str8 (Ru.replL s.data.toList))) ∧ Below B w w' := by
  obtain ⟨o, cap, hb, hob, o0, o1, o2, o3⟩ := hR
  have hmt : ∀ n w (x : Value), Sem.run Tryz.prog (method (n + 1) 109 x "Replace") w = .ok (109, x) w := fun _ _ _ => by kernel_rfl
  have hmf : ∀ (fn : Fn) (first cap : Array Value) (w : World), (Instr.makeFunc fn first cap).run Tryz.prog w = .ok (.func fn first cap) w := fun _ _ _ _ => rfl
  have hlt : b < w.heap.size := (Array.getElem?_eq_some_iff.1 hb).1
  have c0 : w.cell? ⟨b, 0, none⟩ = some (.int .u32 0) := by rw [Lib.cell_of_heap hb]; rfl
  have c1 : w.cell? ⟨b, 1, none⟩ = some (.int .i32 0) := by rw [Lib.cell_of_heap hb]; rfl
  have c3 : w.cell? ⟨b, 3, none⟩ = some .nilIface := by rw [Lib.cell_of_heap hb]; rfl
  have c4 : w.cell? ⟨b, 4, none⟩ = some (.slice (some ⟨o, 0, none⟩) 4 cap) := by rw [Lib.cell_of_heap hb]; rfl
  have fz : ∀ j, w.frozen? ⟨b, j, none⟩ = false := fun j => Lib.frozen_of_heap hb j
  -- the world in which the function is called: the lock is taken
  have hz1 : (w.setCell ⟨b, 1, none⟩ (.int .i32 1)).heap.size = w.heap.size := by simp [World.setCell]
  have co : ∀ a : Addr, a ≠ ⟨b, 1, none⟩ → (w.setCell ⟨b, 1, none⟩ (.int .i32 1)).cell? a = w.cell? a := fun a ha => World.cell?_setCell_other w _ _ _ (fun e => ha e.symm)
  have hBO := build_once b o cap .nilIface (w.setCell ⟨b, 1, none⟩ (.int .i32 1)) ((co _ (by simp)).trans c3) ((co _ (by simp)).trans c4) (by simp [fz]) (by simp [fz]) ((co _ (by intro e; injection e with e1; exact hob e1)).trans o0) ((co _ (by intro e; injection e with e1; exact hob e1)).trans o1) ((co _ (by intro e; injection e with e1; exact hob e1)).trans o2) ((co _ (by intro e; injection e with e1; exact hob e1)).trans o3)
  rw [hz1] at hBO
  have hDo := do_any b 43 _ w c0 c1 (fz 1) (fun w' => by simp [go_sem]) hBO (by
    rintro w' ⟨u, hT, hb, rfl⟩
    have e0 : u.cell? ⟨b, 0, none⟩ = some (.int .u32 0) := (hb.cell hlt).trans ((co _ (by simp)).trans c0)
    have e1 : u.cell? ⟨b, 1, none⟩ = some (.int .i32 1) := (hb.cell hlt).trans (World.cell?_setCell_same w _ _ c1)
    have z : ∀ j, u.frozen? ⟨b, j, none⟩ = false := fun j => (hb.frozen hlt).trans (by simp [fz])
    refine ⟨?_, ?_, by simp [z], by simp [z]⟩
    · rw [World.cell?_setCell_other _ _ _ _ (by simp), World.cell?_setCell_other _ _ _ _ (by simp)]; exact e0
    · rw [World.cell?_setCell_other _ _ _ _ (by simp), World.cell?_setCell_other _ _ _ _ (by simp)]; exact e1)
  have hDo2 := hDo.mono (R' := fun e w' => e = .returned (.tuple #[]) ∧ TrieAbove w' w.heap.size ∧ w'.cell? ⟨b, 3, none⟩ = some (.iface 109 (.pointer (some ⟨w.heap.size, 0, none⟩))) ∧ Below B w w') (by
    rintro e w' ⟨rfl, u', ⟨u, hT, hb, rfl⟩, rfl⟩
    have e3 : u.cell? ⟨b, 3, none⟩ = some .nilIface := (hb.cell hlt).trans ((co _ (by simp)).trans c3)
    refine ⟨rfl, ?_, ?_, ?_⟩
    · refine hT.other hlt (fun a ha => ?_)
      have hne : ∀ j : Nat, (⟨b, j, none⟩ : Addr) ≠ a := fun j e => ha (by rw [← e])
      rw [World.cell?_setCell_other _ _ _ _ (hne 1), World.cell?_setCell_other _ _ _ _ (hne 0), World.cell?_drew, World.cell?_setCell_other _ _ _ _ (hne 4), World.cell?_setCell_other _ _ _ _ (hne 3)]
    · rw [World.cell?_setCell_other _ _ _ _ (by simp), World.cell?_setCell_other _ _ _ _ (by simp), World.cell?_drew, World.cell?_setCell_other _ _ _ _ (by simp)]
      exact World.cell?_setCell_same u _ _ e3
    · exact (((((((Below.refl B w).setCell (p := ⟨b, 1, none⟩) hB _).trans (hb.mono (by omega))).setCell (p := ⟨b, 3, none⟩) hB _).setCell (p := ⟨b, 4, none⟩) hB _).drew).setCell (p := ⟨b, 0, none⟩) hB _).setCell (p := ⟨b, 1, none⟩) hB _)
  clear hDo hBO
  go_enter Tryz.func28, Tryz.ntmps28
  go_wp2_with (first
    | (go_at_call 42; refine hDo2.mono ?_; rintro e w2 ⟨rfl, ⟨t, n1, n2, n3, n4, hT, _⟩, hc3, hbw⟩; have HR := trie_replace w.heap.size t n1 n2 n3 n4 s w2 hT (lt_of_cell hT.rv) (lt_of_cell hT.t0) (lt_of_cell hT.a1) (lt_of_cell hT.b0) (lt_of_cell hT.c1) (lt_of_cell hT.d0) hz)
    | (go_at_call 109; refine HR.mono ?_; rintro e w3 ⟨rfl, hb3⟩))
  go_ret
  exact ⟨rfl, hbw.trans (hb3.mono (by have := hbw.size; omega))⟩

section
variable {P : Program} {ops : Array Oper} {rest : List Oper} {o : Oper} {a : Act} {Q : Exit → Act → World → Prop} {W : World}
theorem wpList_append_run {sl x : Operand} {t u : TypeId} {v' : Value} {W' : World} (hgd : o.guard = none) (ho : o.op = .call { callee := .builtin .append, args := #[sl, x], argTypes := #[t, u] })
    (hr : (Builtin.append_ #[t, u] o.type #[a.eval sl, a.eval x]).run P W = .ok v' W') (h : wpList P ops Q rest (a.put o.dst v') W') : wpList P ops Q (o :: rest) a W := by
  refine wpList_plain hgd fun K hK => ?_
  unfold Oper.wp execOp
  simp only [ho, resolve, invoke, builtin, Sem.run_bind, Sem.run_pure, Result.andThen_ok, List.map_toArray, List.map_cons, List.map_nil, hr]
  exact hK _ _ h
end

theorem two_new (w : World) (A B : Obj) : ((w.alloc A).alloc B).drew.heap[w.heap.size]? = some A ∧ ((w.alloc A).alloc B).drew.heap[w.heap.size + 1]? = some B ∧ Below w.heap.size w ((w.alloc A).alloc B).drew := by
  have hz : (w.alloc A).heap.size = w.heap.size + 1 := World.size_alloc w A
  refine ⟨?_, ?_, ?_⟩
  · exact (Below.heap_alloc (w.alloc A) B w.heap.size (by omega)).trans (heap_alloc_new w A)
  · have := heap_alloc_new (w.alloc A) B
    rw [hz] at this
    exact this
  · exact (((Below.refl _ w).alloc (Nat.le_refl _) A).alloc (by omega) B).drew

set_option maxHeartbeats 4000000 in
set_option maxRecDepth 1000000 in
theorem new_rep (q c : Nat) (w : World) (o0 : w.cell? ⟨q, 0, none⟩ = some (.string ⟨#[195, 159]⟩)) (o1 : w.cell? ⟨q, 1, none⟩ = some (.string ⟨#[115, 115]⟩)) (o2 : w.cell? ⟨q, 2, none⟩ = some (.string ⟨#[225, 186, 158]⟩)) (o3 : w.cell? ⟨q, 3, none⟩ = some (.string ⟨#[115, 115]⟩)) :
    Calls Tryz.prog 27 #[.slice (some ⟨q, 0, none⟩) 4 c] w fun e w' => ∃ b, e = .returned (.pointer (some ⟨b, 0, none⟩)) ∧ NewRep w' b ∧ w.heap.size ≤ b ∧ Below w.heap.size w w' := by
  obtain ⟨i0, hi, hz0, hz1, hz2⟩ := info_parts info_string
  have happ := run_append_nil (P := Tryz.prog) w 34 34 9 i0 (.string ⟨#[]⟩) Tryz.underlying34 hi hz0 ⟨q, 0, none⟩ 4 c [.string ⟨#[195, 159]⟩, .string ⟨#[115, 115]⟩, .string ⟨#[225, 186, 158]⟩, .string ⟨#[115, 115]⟩] (by rw [hz1]; rfl) (by
    intro j v hj
    rw [Addr.add_lit]
    match j, hj with
    | 0, hj => injection hj with h; rw [← h]; exact o0
    | 1, hj => injection hj with h; rw [← h]; exact o1
    | 2, hj => injection hj with h; rw [← h]; exact o2
    | 3, hj => injection hj with h; rw [← h]; exact o3
    | j + 4, hj => simp at hj) (by omega) (by omega) (by rw [hz2]; decide)
  obtain ⟨cap, hcap⟩ : ∃ cap, grownCap w 4 0 9 = cap := ⟨_, rfl⟩
  rw [hcap] at happ
  go_enter Tryz.func27, Tryz.ntmps27
  go_wp2_with ((with_reducible refine gate_builtin (b := .append) (xs := #[.const (.slice none 0 0), .tmp 8]) rfl ?_); go_must (refine wpList_append_run rfl rfl happ ?_))
  go_ret
  obtain ⟨hA, hBk, hbl⟩ := two_new w (.cells (#[.string ⟨#[195, 159]⟩, .string ⟨#[115, 115]⟩, .string ⟨#[225, 186, 158]⟩, .string ⟨#[115, 115]⟩] ++ Builtin.zeroCells #[.string ⟨#[]⟩] (cap - 4)) 9) (.cells #[.int .u32 0, .int .i32 0, .int .u32 0, .nilIface, .slice (some ⟨w.heap.size, 0, none⟩) 4 cap] 84)
  refine ⟨w.heap.size + 1, rfl, ⟨w.heap.size, cap, hBk, by omega, ?_, ?_, ?_, ?_⟩, by omega, hbl⟩
  · rw [Lib.cell_of_heap hA, Array.getElem?_append_left (Nat.lt_of_lt_of_eq (by decide : 0 < 4) rfl)]; rfl
  · rw [Lib.cell_of_heap hA, Array.getElem?_append_left (Nat.lt_of_lt_of_eq (by decide : 1 < 4) rfl)]; rfl
  · rw [Lib.cell_of_heap hA, Array.getElem?_append_left (Nat.lt_of_lt_of_eq (by decide : 2 < 4) rfl)]; rfl
  · rw [Lib.cell_of_heap hA, Array.getElem?_append_left (Nat.lt_of_lt_of_eq (by decide : 3 < 4) rfl)]; rfl
end Go.Proofs.YtokmmkeoodgodaaGreatDoor
