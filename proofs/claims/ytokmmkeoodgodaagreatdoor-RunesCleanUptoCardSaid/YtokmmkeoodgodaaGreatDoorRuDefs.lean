/-
  WHAT IS TAKEN OF THE WORLD: the two tables of unicode/utf8 as their initialisers lay them ('TT'), and the plain functions of five Go functions, in the words of the printed texts.
-/
import Derived.Test.YtokmmkeoodgodaaGreatDoorProg
import Derived.Test.YtokmmkeoodgodaaGreatDoorRuPlain
import Derived.Shelf.Unicode.DecodeSlow
import Derived.Lib.IndexAny
namespace Go.Proofs.YtokmmkeoodgodaaGreatDoor
open Go.RowKit
/-- the tables of unicode/utf8 -/
def TT (w : World) : Prop := Lib.Utf8Tabs 0 1 w
theorem TT.of {w w' : World} (h : TT w) (hb : Below w.heap.size w w') : TT w' := Utf8Tabs_below h hb
/-- bytes as whole numbers, and back -/
def nums8 (l : List UInt8) : List Int := l.map fun b => (b.toNat : Int)
def bytes8 (l : List Int) : List UInt8 := l.map fun n => n.toNat.toUInt8
def str8 (l : List UInt8) : ByteArray := ⟨l.toArray⟩
theorem str8_list (l : List UInt8) : (str8 l).data.toList = l := by simp [str8]
theorem bytes8_nums8 (l : List UInt8) : bytes8 (nums8 l) = l := by
  unfold bytes8 nums8
  rw [List.map_map]
  conv => rhs; rw [← List.map_id l]
  apply List.map_congr_left
  intro b _
  simp
/-- how far a text may reach here -/
def far : Nat := 17592186044416
def Pr.runes_Lines.f (a0 : ByteArray) : Option (List ByteArray) := if a0.size ≤ 268435456 then some ((Ru.linesL a0.data.toList).map str8) else none
def Pr.runes_Mark.f (a0 : Int) : Option Bool := if 0 ≤ a0 ∧ a0 < 256 then some (Ru.markN a0.toNat) else none
def spaceI (x : Int) : Bool := decide (0 ≤ x) && Ru.spaceN x.toNat
def Pr.runes_Space.f (a0 : Int) : Option Bool := if -2147483648 ≤ a0 ∧ a0 ≤ 2147483647 then some (spaceI a0) else none
def Pr.runes_Clean.f (l : List Int) : Option ByteArray := if l.length ≤ 268435456 ∧ (∀ x ∈ l, 0 ≤ x ∧ x < 256) then some (str8 (Ru.cleanL (bytes8 l))) else none
def Pr.runes_Fold.f (a0 : ByteArray) : Option ByteArray := if a0.size ≤ 67108864 then some (str8 (Ru.foldL a0.data.toList)) else none
def Pr.runes_Punct.f (a0 : Int) : Option Bool := if -2147483648 ≤ a0 ∧ a0 ≤ 2147483647 then some (Ru.punctI a0) else none
end Go.Proofs.YtokmmkeoodgodaaGreatDoor
