/-
  (*strings.trieNode).add in the three ways in which runes.Fold's replacer comes to it.
-/
import Derived.Test.YtokmmkeoodgodaaGreatDoorRuReplace
import Derived.Handy
namespace Go.Proofs.YtokmmkeoodgodaaGreatDoor
open Go.RowKit Go.Lib Go.Proofs.YtokmmkeoodgodaaGreatDoorW.PrintWords

/-- an empty node -/
abbrev node0 : Obj := .cells #[.string ⟨#[]⟩, .int .i64 0, .string ⟨#[]⟩, .pointer none, .slice none 0 0] 127

set_option maxHeartbeats 2000000 in
set_option maxRecDepth 1000000 in
theorem add_end (p : Nat) (val : ByteArray) (prio : Int) (r : Value) (w : World) (h1 : w.cell? ⟨p, 1, none⟩ = some (.int .i64 0)) (h0 : w.cell? ⟨p, 0, none⟩ = some (.string ⟨#[]⟩))
    (f0 : w.frozen? ⟨p, 0, none⟩ = false) (f1 : w.frozen? ⟨p, 1, none⟩ = false) :
    Calls Tryz.prog 73 #[.pointer (some ⟨p, 0, none⟩), .string ⟨#[]⟩, .string val, .int .i64 prio, r] w fun e w' => e = .returned (.tuple #[]) ∧ w' = (w.setCell ⟨p, 0, none⟩ (.string val)).setCell ⟨p, 1, none⟩ (.int .i64 prio) := by
  go_enter Tryz.func73, Tryz.ntmps73
  go_wp2
  go_returns
  exact ⟨rfl, rfl⟩

/-- the world behind a key that was laid into an empty node p -/
abbrev leafW (w : World) (p : Nat) (key val : ByteArray) (prio : Int) : World :=
  ((w.setCell ⟨p, 2, none⟩ (.string key)).setCell ⟨p, 3, none⟩ (.pointer (some ⟨w.heap.size, 0, none⟩))).alloc (.cells #[.string val, .int .i64 prio, .string ⟨#[]⟩, .pointer none, .slice none 0 0] 127)

set_option maxHeartbeats 2000000 in
set_option maxRecDepth 1000000 in
theorem add_leaf (p : Nat) (key val : ByteArray) (prio : Int) (r : Value) (w : World) (hk : key.toList ≠ []) (hp : p < w.heap.size) (h2 : w.cell? ⟨p, 2, none⟩ = some (.string ⟨#[]⟩)) (h3 : w.cell? ⟨p, 3, none⟩ = some (.pointer none)) (h4 : w.cell? ⟨p, 4, none⟩ = some (.slice none 0 0))
    (f2 : w.frozen? ⟨p, 2, none⟩ = false) (f3 : w.frozen? ⟨p, 3, none⟩ = false) :
    Calls Tryz.prog 73 #[.pointer (some ⟨p, 0, none⟩), .string key, .string val, .int .i64 prio, r] w fun e w' => e = .returned (.tuple #[]) ∧ w' = leafW w p key val prio := by
  have hk1 : (key.toList == ([] : List UInt8)) = false := beq_eq_false_iff_ne.2 hk
  have hnn : ∀ (a : Option Addr) (l c : Nat) (W : World), (Go.binOp .neq 125 (.slice a l c) (.slice none 0 0)).run Tryz.prog W = .ok (.bool (!a.isNone)) W := fun a l c W => Go.run_neq_slice_nil W _ _ a l c Tryz.underlying125
  have hq : ¬ p = w.heap.size := by omega
  have hq' : ¬ w.heap.size = p := by omega
  go_enter Tryz.func73, Tryz.ntmps73
  go_wp2_with (go_at_call 73; refine (add_end w.heap.size val prio r _ (by go_simp) (by go_simp) (by go_simp) (by go_simp)).mono ?_; rintro e w2 ⟨rfl, rfl⟩)
  go_returns
  exact ⟨rfl, rfl⟩

/-- what is behind a key that was laid into the root's table: two new nodes, and one cell of the table turned -/
structure Added (w w' : World) (t m : Nat) (key val : ByteArray) (prio : Int) : Prop where
  size : w'.heap.size = w.heap.size + 2
  cell : ∀ a : Addr, a.block < w.heap.size → a ≠ ⟨t, m, none⟩ → w'.cell? a = w.cell? a
  frozen : ∀ a : Addr, a.block < w.heap.size → w'.frozen? a = w.frozen? a
  tm : w'.cell? ⟨t, m, none⟩ = some (.pointer (some ⟨w.heap.size, 0, none⟩))
  a1 : w'.cell? ⟨w.heap.size, 1, none⟩ = some (.int .i64 0)
  a2 : w'.cell? ⟨w.heap.size, 2, none⟩ = some (.string key)
  a3 : w'.cell? ⟨w.heap.size, 3, none⟩ = some (.pointer (some ⟨w.heap.size + 1, 0, none⟩))
  a4 : w'.cell? ⟨w.heap.size, 4, none⟩ = some (.slice none 0 0)
  b0 : w'.cell? ⟨w.heap.size + 1, 0, none⟩ = some (.string val)
  b1 : w'.cell? ⟨w.heap.size + 1, 1, none⟩ = some (.int .i64 prio)
  b2 : w'.cell? ⟨w.heap.size + 1, 2, none⟩ = some (.string ⟨#[]⟩)
  b4 : w'.cell? ⟨w.heap.size + 1, 4, none⟩ = some (.slice none 0 0)
  below : ∀ B : Nat, B ≤ t → B ≤ w.heap.size → Below B w w'

theorem Added.undrew {w w' : World} {t m : Nat} {key val : ByteArray} {prio : Int} (h : Added w.drew w' t m key val prio) : Added w w' t m key val prio :=
  ⟨h.size, h.cell, h.frozen, h.tm, h.a1, h.a2, h.a3, h.a4, h.b0, h.b1, h.b2, h.b4, fun B h1 h2 => ((Below.refl B w).drew).trans (h.below B h1 h2)⟩

/-- what one store into an elder block and a new node behind it leave -/
theorem store_new (W : World) (t m : Nat) (x old : Value) (ht : t < W.heap.size) (hc : W.cell? ⟨t, m, none⟩ = some old) (V : World) (hV : V = (W.setCell ⟨t, m, none⟩ x).alloc node0) :
    V.heap.size = W.heap.size + 1 ∧ V.heap[W.heap.size]? = some node0 ∧ V.cell? ⟨t, m, none⟩ = some x ∧ (∀ a : Addr, a.block < W.heap.size → a ≠ ⟨t, m, none⟩ → V.cell? a = W.cell? a) ∧ (∀ a : Addr, a.block < W.heap.size → V.frozen? a = W.frozen? a) := by
  subst hV
  have hz : (W.setCell ⟨t, m, none⟩ x).heap.size = W.heap.size := by simp [World.setCell]
  have hold : ∀ k, k < W.heap.size → ((W.setCell ⟨t, m, none⟩ x).alloc node0).heap[k]? = (W.setCell ⟨t, m, none⟩ x).heap[k]? := fun k hk => Below.heap_alloc _ _ k (by rw [hz]; exact hk)
  refine ⟨by simp [World.alloc, World.setCell], ?_, ?_, ?_, ?_⟩
  · have := heap_alloc_new (W.setCell ⟨t, m, none⟩ x) node0
    rwa [hz] at this
  · rw [World.cell?_of_block (hold t ht)]
    exact World.cell?_setCell_same W _ _ hc
  · intro a ha hne
    rw [World.cell?_of_block (hold a.block ha)]
    exact World.cell?_setCell_other W _ _ _ (fun e => hne e.symm)
  · intro a ha
    rw [World.frozen?_of_block (hold a.block ha)]
    simp

theorem leaf_heap (V : World) (n : Nat) (key val : ByteArray) (prio : Int) (hn : n < V.heap.size) (hN : V.heap[n]? = some node0) :
    (leafW V n key val prio).heap[n]? = some (.cells #[.string ⟨#[]⟩, .int .i64 0, .string key, .pointer (some ⟨V.heap.size, 0, none⟩), .slice none 0 0] 127) ∧
    (leafW V n key val prio).heap[V.heap.size]? = some (.cells #[.string val, .int .i64 prio, .string ⟨#[]⟩, .pointer none, .slice none 0 0] 127) := by
  constructor
  · rw [Below.heap_alloc _ _ n (by simp [World.setCell]; exact hn)]
    simp [World.setCell, Array.getElem?_modify, hN]
  · have := heap_alloc_new ((V.setCell ⟨n, 2, none⟩ (.string key)).setCell ⟨n, 3, none⟩ (.pointer (some ⟨V.heap.size, 0, none⟩))) (.cells #[.string val, .int .i64 prio, .string ⟨#[]⟩, .pointer none, .slice none 0 0] 127)
    have hz : ((V.setCell ⟨n, 2, none⟩ (.string key)).setCell ⟨n, 3, none⟩ (.pointer (some ⟨V.heap.size, 0, none⟩))).heap.size = V.heap.size := by simp [World.setCell]
    rwa [hz] at this

theorem added_of {w V : World} {t m : Nat} {key val : ByteArray} {prio : Int} (VS : V.heap.size = w.heap.size + 1) (ht : t < w.heap.size)
    (VT : V.cell? ⟨t, m, none⟩ = some (.pointer (some ⟨w.heap.size, 0, none⟩))) (VN : V.heap[w.heap.size]? = some node0)
    (VO : ∀ a : Addr, a.block < w.heap.size → a ≠ ⟨t, m, none⟩ → V.cell? a = w.cell? a) (VF : ∀ a : Addr, a.block < w.heap.size → V.frozen? a = w.frozen? a)
    (VB : ∀ B : Nat, B ≤ t → B ≤ w.heap.size → Below B w V) : Added w (leafW V w.heap.size key val prio) t m key val prio := by
  have hb : Below w.heap.size V (leafW V w.heap.size key val prio) :=
    (((Below.refl _ V).setCell (p := ⟨w.heap.size, 2, none⟩) (Nat.le_refl _) _).setCell (p := ⟨w.heap.size, 3, none⟩) (Nat.le_refl _) _).alloc (by simp [World.setCell]; omega) _
  obtain ⟨L1, L2⟩ := leaf_heap V w.heap.size key val prio (by omega) VN
  rw [VS] at L1 L2
  refine ⟨?_, ?_, ?_, ?_, ?_, ?_, ?_, ?_, ?_, ?_, ?_, ?_, ?_⟩
  · simp [leafW, World.alloc, World.setCell]; omega
  · intro a ha hne
    rw [hb.cell ha]; exact VO a ha hne
  · intro a ha
    rw [hb.frozen ha]; exact VF a ha
  · rw [hb.cell ht]; exact VT
  · rw [Lib.cell_of_heap L1]; rfl
  · rw [Lib.cell_of_heap L1]; rfl
  · rw [Lib.cell_of_heap L1]; rfl
  · rw [Lib.cell_of_heap L1]; rfl
  · rw [Lib.cell_of_heap L2]; rfl
  · rw [Lib.cell_of_heap L2]; rfl
  · rw [Lib.cell_of_heap L2]; rfl
  · rw [Lib.cell_of_heap L2]; rfl
  · intro B h1 h2
    exact (VB B h1 h2).trans (hb.mono h2)

set_option maxHeartbeats 4000000 in
set_option maxRecDepth 1000000 in
theorem add_root (g t m : Nat) (c : UInt8) (u : List UInt8) (key val : ByteArray) (prio : Int) (w : World) (hk : key.data.toList = c :: u) (hu : u ≠ []) (hkz : key.size ≤ 268435456) (hm5 : m < 5) (hg : g < w.heap.size) (ht : t < w.heap.size)
    (h2 : w.cell? ⟨g, 2, none⟩ = some (.string ⟨#[]⟩)) (h4 : w.cell? ⟨g, 4, none⟩ = some (.slice (some ⟨t, 0, none⟩) 5 5)) (hm : w.cell? ⟨g, 6 + c.toNat, none⟩ = some (.int .u8 (m : Int)))
    (ht0 : w.cell? ⟨t, m, none⟩ = some (.pointer none)) (ft : w.frozen? ⟨t, m, none⟩ = false) :
    Calls Tryz.prog 73 #[.pointer (some ⟨g, 0, none⟩), .string key, .string val, .int .i64 prio, .pointer (some ⟨g, 0, none⟩)] w fun e w' => e = .returned (.tuple #[]) ∧ Added w w' t m (key.extract 1 key.size) val prio := by
  have hk1 : (key.toList == ([] : List UInt8)) = false := by rw [toList_eq, hk]; rfl
  have hnn : ∀ (a : Option Addr) (l c : Nat) (W : World), (Go.binOp .neq 125 (.slice a l c) (.slice none 0 0)).run Tryz.prog W = .ok (.bool (!a.isNone)) W := fun a l c W => Go.run_neq_slice_nil W _ _ a l c Tryz.underlying125
  have hss : key.size = u.length + 1 := by rw [← Ru.size_list, hk]; rfl
  have h00 : 0 < key.size := by omega
  obtain ⟨hi0, hx0'⟩ := at_byte (s := key) (i := 0) (c := c) (u := u) (by simpa using hk)
  have hx0 : ∀ h : 0 < key.size, key[0]'h = c := fun _ => hx0'
  clear hx0'
  have e1 : (key.extract 1 key.size).data.toList = u := by
    rw [extract_list, str8_list, hk, hss]; simp [Ru.pc]
  obtain ⟨k1, hk1'⟩ : ∃ x, key.extract 1 key.size = x := ⟨_, rfl⟩
  rw [hk1'] at e1
  have hsl : (1 : Int) ≤ (key.size : Int) := by omega
  have hne : k1.toList ≠ [] := by rw [toList_eq, e1]; exact hu
  have hc256 := c.toNat_lt
  clear hk hss e1
  rw [hk1']
  have hq : ¬ t = w.heap.size := by omega
  have hq' : ¬ w.heap.size = t := by omega
  have hq2 : ¬ g = w.heap.size := by omega
  have hm5' : (m : Int) < 5 := by omega
  go_enter Tryz.func73, Tryz.ntmps73
  go_wp2
  go_quiet (fail)
  have HS : (w.drewN nq).heap.size = w.heap.size := rfl
  have C2 : (w.drewN nq).cell? ⟨g, 2, none⟩ = some (.string ⟨#[]⟩) := h2
  have C4 : (w.drewN nq).cell? ⟨g, 4, none⟩ = some (.slice (some ⟨t, 0, none⟩) 5 5) := h4
  have CM : (w.drewN nq).cell? ⟨g, 6 + c.toNat, none⟩ = some (.int .u8 (m : Int)) := hm
  have CT : (w.drewN nq).cell? ⟨t, m, none⟩ = some (.pointer none) := ht0
  have FT : (w.drewN nq).frozen? ⟨t, m, none⟩ = false := ft
  obtain ⟨W, hW⟩ : ∃ W, w.drewN nq = W := ⟨_, rfl⟩
  rw [hW] at HS C2 C4 CM CT FT ⊢
  clear h2 h4 hm ht0 ft
  have ht2 : t < W.heap.size := by omega
  have hg2 : g < W.heap.size := by omega
  have CTA := ((World.cell?_of_block (w := W) (w' := W.alloc node0) (a := ⟨t, m, none⟩) (Below.heap_alloc W node0 t ht2))).trans CT
  have FTA := ((World.frozen?_of_block (w := W) (w' := W.alloc node0) (a := ⟨t, m, none⟩) (Below.heap_alloc W node0 t ht2))).trans FT
  have C4A := ((World.cell?_of_block (w := W) (w' := W.alloc node0) (a := ⟨g, 4, none⟩) (Below.heap_alloc W node0 g hg2))).trans C4
  go_wp2
  obtain ⟨V, hV⟩ : ∃ V, (W.setCell ⟨t, m, none⟩ (.pointer (some ⟨w.heap.size, 0, none⟩))).alloc node0 = V := ⟨_, rfl⟩
  have VB' : ∀ B : Nat, B ≤ t → B ≤ w.heap.size → Below B w V := by
    intro B h1 h2
    rw [← hV, ← hW]
    exact ((aid.below_drewN (Below.refl _ w) nq).setCell (p := ⟨t, m, none⟩) h1 _).alloc (by simp [World.setCell]; exact h2) _
  obtain ⟨VS, VN, VT, VO, VF⟩ := store_new W t m (.pointer (some ⟨w.heap.size, 0, none⟩)) _ ht2 CT V hV.symm
  rw [HS] at VS VN VO VF
  have hgt : (⟨g, 4, none⟩ : Addr) ≠ ⟨t, m, none⟩ := by
    intro e
    rw [e, CT] at C4; cases C4
  have V4 : V.cell? ⟨g, 4, none⟩ = some (.slice (some ⟨t, 0, none⟩) 5 5) := (VO _ hg hgt).trans C4
  have N2 : V.cell? ⟨w.heap.size, 2, none⟩ = some (.string ⟨#[]⟩) := by rw [Lib.cell_of_heap VN]; rfl
  have N3 : V.cell? ⟨w.heap.size, 3, none⟩ = some (.pointer none) := by rw [Lib.cell_of_heap VN]; rfl
  have N4 : V.cell? ⟨w.heap.size, 4, none⟩ = some (.slice none 0 0) := by rw [Lib.cell_of_heap VN]; rfl
  have F2 : V.frozen? ⟨w.heap.size, 2, none⟩ = false := Lib.frozen_of_heap VN 2
  have F3 : V.frozen? ⟨w.heap.size, 3, none⟩ = false := Lib.frozen_of_heap VN 3
  have HVO := Lib.hid (show ∀ a : Addr, a.block < w.heap.size → a ≠ ⟨t, m, none⟩ → V.cell? a = w.cell? a from fun a h1 h2 => (VO a h1 h2).trans (by rw [← hW]; rfl))
  have HVF := Lib.hid (show ∀ a : Addr, a.block < w.heap.size → V.frozen? a = w.frozen? a from fun a h1 => (VF a h1).trans (by rw [← hW]; rfl))
  have HVB := Lib.hid VB'
  rw [hV]
  clear VO VF VB' hgt CTA FTA C4A C2 C4 CM CT FT hV
  have HL := add_leaf w.heap.size k1 val prio (.pointer (some ⟨g, 0, none⟩)) V.drew hne (show w.heap.size < V.heap.size by omega) N2 N3 N4 F2 F3
  go_region_with (go_at_call 73; refine HL.mono ?_; rintro e w2 ⟨rfl, rfl⟩)
  go_wp2
  go_returns
  exact ⟨rfl, added_of (V := V.drew) VS ht VT VN HVO.out HVF.out (fun B h1 h2 => (HVB.out B h1 h2).drew)⟩
end Go.Proofs.YtokmmkeoodgodaaGreatDoor
