/- Texts joined into one, what is needed of them (a program of ours). -/
import Derived.Test.YtijknodekomdfaaGreatDoorCKZb
import Derived.Deep.RegionHeld3
import Derived.Lib.QuietBelow
namespace Go.Proofs.YtijknodekomdfaaGreatDoor
open Go.RowKit Go.Lib Go.Shelf

theorem bits_xor_u16_nat' (a b : Nat) (ha : a < 65536) (hb : b < 65536) : bits .xor .u16 (a : Int) (b : Int) = ((a ^^^ b : Nat) : Int) := by
  have hx : a ^^^ b < 2 ^ 16 := Nat.xor_lt_two_pow (by omega) (by omega)
  have h1 : (BitVec.ofInt 16 (a : Int)).toNat = a := by
    rw [BitVec.ofInt_natCast, BitVec.toNat_ofNat]; exact Nat.mod_eq_of_lt (by omega)
  have h2 : (BitVec.ofInt 16 (b : Int)).toNat = b := by
    rw [BitVec.ofInt_natCast, BitVec.toNat_ofNat]; exact Nat.mod_eq_of_lt (by omega)
  show IntKind.u16.wrap ((BitVec.ofInt 16 (a : Int) ^^^ BitVec.ofInt 16 (b : Int)).toNat : Int) = _
  rw [BitVec.toNat_xor, h1, h2, IntKind.wrap_u16]
  omega
@[go_sem] theorem u16_signed : IntKind.u16.signed = false := rfl
@[go_sem] theorem sv_compl (x : S) : bits .xor .u16 IntKind.u16.max (sv x) = sv (~~~x) := by
  have e : (IntKind.u16.max : Int) = ((65535 : Nat) : Int) := rfl
  have h := bits_xor_u16_nat' 65535 x.toNat (by decide) x.isLt
  rw [e]
  unfold sv
  rw [h, BitVec.toNat_not]
  have : 65535 ^^^ x.toNat = (65535#16 ^^^ x).toNat := by rw [BitVec.toNat_xor]; rfl
  rw [this]
  have h2 : (65535#16 ^^^ x) = ~~~x := by
    apply BitVec.eq_of_getLsbD_eq
    intro i hi
    have h3 : (65535#16).getLsbD i = true := by
      have : ∀ j : Fin 16, (65535#16).getLsbD j.val = true := by decide
      exact this ⟨i, hi⟩
    rw [BitVec.getLsbD_xor, BitVec.getLsbD_not, h3]
    simp [hi]
  rw [h2, BitVec.toNat_not]
end Go.Proofs.YtijknodekomdfaaGreatDoor
namespace Go.Proofs.YtijknodekomdfaaGreatDoor
open Go.RowKit Go.Lib Go.Shelf

end Go.Proofs.YtijknodekomdfaaGreatDoor
