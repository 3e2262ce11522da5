/-
  ARGUMENTS OPENED BY THEIR KINDS: whatever a law's argument reads as is of its kind in the words of the printed texts; what is asked of its parts holds; its size lies under the bulk of the reading.
-/
import Derived.Test.YtokmmkeoodgodaaGreatDoorRows
import Derived.Test.YtokmmkeoodgodaaGreatDoorWWords
import Derived.Deep.Slices
import Derived.OpenShut
namespace Go.Proofs.YtokmmkeoodgodaaGreatDoor
open Go.RowKit Go.Proofs.YtokmmkeoodgodaaGreatDoorW.PrintWords

/-- every reading of type t is of kind d, meets ok, and is of size at most its bulk -/
def Opn (P : Program) {α : Type} (t : TypeId) (d : Kd α) (ok : α → Prop) (sz : α → Nat) : Prop :=
  ∀ {H : Type} (enc : TypeId × Value → H) (W : World) (base : Nat) (spare : Nat → Bool) (held : Bool) (fuel : Nat) (cs : List Value) (x : DataW H × List MemPlace),
    DataW.trod enc P W base spare held fuel t cs = some x → ∃ a, d.K W a cs ∧ ok a ∧ sz a ≤ Rows.uptoBulk x.1

theorem opn_int {P : Program} {t : TypeId} {k : IntKind} (ht : P.underlying t = some (.int k)) : Opn P t (Kd.int k) (fun x => (Lit.int k x).wf = true) (fun _ => 1) := by
  intro H enc W base spare held fuel cs x h
  obtain ⟨n, rfl, rfl, hw⟩ := DataW.trod_int ht h
  exact ⟨n, rfl, hw, Nat.le_refl _⟩
theorem opn_bool {P : Program} {t : TypeId} (ht : P.underlying t = some .bool) : Opn P t Kd.bool (fun _ => True) (fun _ => 1) := by
  intro H enc W base spare held fuel cs x h
  obtain ⟨n, rfl, rfl⟩ := DataW.trod_bool ht h
  exact ⟨n, rfl, trivial, Nat.le_refl _⟩
theorem opn_str {P : Program} {t : TypeId} (ht : P.underlying t = some .string) : Opn P t Kd.string (fun s => s.size ≤ maxLen) (fun s => s.size + 1) := by
  intro H enc W base spare held fuel cs x h
  obtain ⟨s, rfl, rfl, hs⟩ := DataW.trod_string ht h
  refine ⟨s, rfl, hs, ?_⟩
  simp only [Rows.uptoBulk]
  rw [Array.length_toList]
  exact Nat.le_refl _

theorem wf_i32 {n : Int} (h : (Lit.int .i32 n).wf = true) : -2147483648 ≤ n ∧ n ≤ 2147483647 := by
  simpa [Lit.wf, IntKind.min, IntKind.max, IntKind.signed, IntKind.bits] using h
theorem wf_i64 {n : Int} (h : (Lit.int .i64 n).wf = true) : -9223372036854775808 ≤ n ∧ n ≤ 9223372036854775807 := by
  simpa [Lit.wf, IntKind.min, IntKind.max, IntKind.signed, IntKind.bits] using h
theorem wf_u8 {n : Int} (h : (Lit.int .u8 n).wf = true) : 0 ≤ n ∧ n < 256 := by
  have : 0 ≤ n ∧ n ≤ 255 := by simpa [Lit.wf, IntKind.min, IntKind.max, IntKind.signed, IntKind.bits] using h
  omega
theorem wf_u64 {n : Int} (h : (Lit.int .u64 n).wf = true) : 0 ≤ n ∧ n < 18446744073709551616 := by
  have : 0 ≤ n ∧ n ≤ 18446744073709551615 := by simpa [Lit.wf, IntKind.min, IntKind.max, IntKind.signed, IntKind.bits] using h
  omega

/-- sizes, added up -/
def szs {α : Type} (sz : α → Nat) : List α → Nat
  | [] => 0
  | a :: r => sz a + szs sz r
theorem szs_mem {α : Type} (sz : α → Nat) : ∀ {l : List α} {a : α}, a ∈ l → sz a ≤ szs sz l
  | b :: r, a, h => by
    rcases List.mem_cons.1 h with rfl | h
    · exact Nat.le_add_right _ _
    · exact Nat.le_trans (szs_mem sz h) (Nat.le_add_left _ _)
theorem szs_len {α : Type} (sz : α → Nat) (h : ∀ a, 1 ≤ sz a) : ∀ l : List α, l.length ≤ szs sz l
  | [] => Nat.le_refl _
  | a :: r => by have := szs_len sz h r; have := h a; simp only [szs, List.length_cons]; omega
theorem szs_ofFn {α H : Type} (sz : α → Nat) (A : Nat → α) (D : Nat → DataW H) : ∀ (n m : Nat), (∀ i, m ≤ i → i < m + n → sz (A i) ≤ Rows.uptoBulk (D i)) →
    szs sz ((List.range' m n).map A) ≤ Rows.uptoBulkAll ((List.range' m n).map D)
  | 0, _, _ => Nat.le_refl _
  | n + 1, m, h => by
    rw [List.range'_succ, List.map_cons, List.map_cons]
    simp only [szs, Rows.uptoBulkAll]
    have h1 := h m (Nat.le_refl _) (by omega)
    have h2 := szs_ofFn sz A D n (m + 1) (fun i hi hj => h i (by omega) (by omega))
    omega

theorem opn_slice {P : Program} {α : Type} [Inhabited α] {t e : TypeId} {d : Kd α} {ok : α → Prop} {sz : α → Nat} (ht : P.underlying t = some (.slice e)) (hc : P.cellsOf e = d.sz) (hd : Opn P e d ok sz) :
    Opn P t (Kd.slice e d) (fun l => ∀ a ∈ l, ok a) (fun l => szs sz l + 1) := by
  intro H enc W base spare held fuel cs x h
  rcases Go.Deep.open_slice ht h with ⟨rfl, rfl⟩ | ⟨a, len, cap, m, n, D, Pl, rfl, hb, hl, hm, hmm, rfl, hx⟩
  · exact ⟨[], ⟨none, 0, rfl, Nat.le_refl _, Kd.C_nil d W⟩, fun _ h => (by simp at h), Nat.le_refl _⟩
  · have hlm : len ≤ m := by rw [hmm]; split <;> omega
    have each : ∀ i, i < len → ∃ b, (∃ c, c.length = d.sz ∧ d.K W b c ∧ ∀ j u, c[j]? = some u → W.cell? (a.add (i * d.sz + j)) = some u) ∧ ok b ∧ sz b ≤ Rows.uptoBulk (D i) := by
      intro i hi
      obtain ⟨cs', h1, h2⟩ := hx i (by omega)
      obtain ⟨b, hk, ho, hz⟩ := hd enc W base spare held n cs' _ h2
      obtain ⟨_, hlen, hcell⟩ := World.cells?_some h1
      rw [hc] at h1 hlen hcell
      refine ⟨b, ⟨cs', hlen, hk, fun j u hj => ?_⟩, ho, hz⟩
      have hjl : j < d.sz := by rw [← hlen]; exact (List.getElem?_eq_some_iff.1 hj).1
      have := hcell j hjl
      rw [hj, Addr.add_add] at this
      exact this
    obtain ⟨A, hA⟩ := Go.Deep.choose_lt (α := α) (p := fun i b => (∃ c, c.length = d.sz ∧ d.K W b c ∧ ∀ j u, c[j]? = some u → W.cell? (a.add (i * d.sz + j)) = some u) ∧ ok b ∧ sz b ≤ Rows.uptoBulk (D i)) each
    have hmax : len ≤ 9223372036854775807 := Nat.le_trans (Nat.le_trans hl hm) (Nat.le_refl _)
    refine ⟨(List.range len).map A, ⟨some a, cap, by simp, by simpa using hl, ?_⟩, ?_, ?_⟩
    · refine ⟨rfl, by simpa using hmax, fun _ => ⟨a, rfl, fun j p hj => ?_⟩⟩
      rw [List.getElem?_map] at hj
      obtain ⟨i, hi, rfl⟩ := Option.map_eq_some_iff.1 hj
      have hjl := (List.getElem?_eq_some_iff.1 hi).1
      rw [List.length_range] at hjl
      rw [List.getElem?_range hjl] at hi
      obtain rfl := Option.some.inj hi
      exact (hA j hjl).1
    · intro b hb
      obtain ⟨i, hi, rfl⟩ := List.mem_map.1 hb
      exact (hA i (List.mem_range.1 hi)).2.1
    · have h3 := szs_ofFn sz A D len 0 (fun i _ hi => (hA i (by omega)).2.2)
      simp only [Rows.uptoBulk]
      rw [List.range_eq_range'] at *
      omega
end Go.Proofs.YtokmmkeoodgodaaGreatDoor
