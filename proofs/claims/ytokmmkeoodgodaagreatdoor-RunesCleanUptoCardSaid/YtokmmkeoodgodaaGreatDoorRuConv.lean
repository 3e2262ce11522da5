/-
  runes.Clean of []byte(s), s a text.
-/
import Derived.Test.YtokmmkeoodgodaaGreatDoorRuShown
import Derived.Lib.ConvBytes
namespace Go.Proofs.YtokmmkeoodgodaaGreatDoor
open Go.RowKit Go.Lib Go.Proofs.YtokmmkeoodgodaaGreatDoorW.PrintWords Go.Proofs.YtokmmkeoodgodaaGreatDoorW.PrintMore

theorem bytes8_bytesOf (s : ByteArray) : bytes8 (Go.Proofs.YtokmmkeoodgodaaGreatDoorW.PrintWords.bytesOf s) = s.data.toList := bytes8_nums8 _

theorem clean_conv (s : ByteArray) (W : World) (c : Nat) (hs : s.size ≤ 268435456) :
    Calls Tryz.prog 7 #[.slice (some ⟨W.heap.size, 0, none⟩) s.size c] (bytesWorld W 5 s) fun e w' => e = .returned (.string (str8 (Ru.cleanL s.data.toList))) ∧ Below W.heap.size W w' := by
  have hl := bytesOf_length s
  have hr := Kd.C_of_reads (d := (0 : Int)) (h1 := fun _ => rfl) (Go.Proofs.YtokmmkeoodgodaaGreatDoorW.PrintWords.bytes_reads W 5 s (by omega))
  have h := clean_any (some ⟨W.heap.size, 0, none⟩) c (Go.Proofs.YtokmmkeoodgodaaGreatDoorW.PrintWords.bytesOf s) (bytesWorld W 5 s) (by rw [hl]; exact hr) (by omega)
  rw [hl, bytes8_bytesOf] at h
  have hb := bytes_below (Below.refl W.heap.size W) (Nat.le_refl _) 5 s
  exact h.mono fun e w' ⟨h1, h2⟩ => ⟨h1, hb.trans (h2.mono hb.size)⟩
end Go.Proofs.YtokmmkeoodgodaaGreatDoor
