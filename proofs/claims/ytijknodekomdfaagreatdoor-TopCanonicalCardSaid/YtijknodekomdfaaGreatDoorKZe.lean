/- Texts joined into one (wip/bin/pack.py): RJ29, RJ29b. -/
import Derived.Test.YtijknodekomdfaaGreatDoorKZd
import Derived.Deep.RegionHeld3
import Derived.Lib.QuietBelow
/- The reference's allowed, both, Faults, Of (layer 29). -/
namespace Go.Proofs.YtijknodekomdfaaGreatDoor
open Go.RowKit Go.Lib Go.Shelf

theorem bits_xor_u16_nat' (a b : Nat) (ha : a < 65536) (hb : b < 65536) : bits .xor .u16 (a : Int) (b : Int) = ((a ^^^ b : Nat) : Int) := by
  have hx : a ^^^ b < 2 ^ 16 := Nat.xor_lt_two_pow (by omega) (by omega)
  have h1 : (BitVec.ofInt 16 (a : Int)).toNat = a := by
    rw [BitVec.ofInt_natCast, BitVec.toNat_ofNat]; exact Nat.mod_eq_of_lt (by omega)
  have h2 : (BitVec.ofInt 16 (b : Int)).toNat = b := by
    rw [BitVec.ofInt_natCast, BitVec.toNat_ofNat]; exact Nat.mod_eq_of_lt (by omega)
  show IntKind.u16.wrap ((BitVec.ofInt 16 (a : Int) ^^^ BitVec.ofInt 16 (b : Int)).toNat : Int) = _
  rw [BitVec.toNat_xor, h1, h2, IntKind.wrap_u16]
  omega
@[go_sem] theorem u16_signed : IntKind.u16.signed = false := rfl
@[go_sem] theorem sv_compl (x : S) : bits .xor .u16 IntKind.u16.max (sv x) = sv (~~~x) := by
  have e : (IntKind.u16.max : Int) = ((65535 : Nat) : Int) := rfl
  have h := bits_xor_u16_nat' 65535 x.toNat (by decide) x.isLt
  rw [e]
  unfold sv
  rw [h, BitVec.toNat_not]
  have : 65535 ^^^ x.toNat = (65535#16 ^^^ x).toNat := by rw [BitVec.toNat_xor]; rfl
  rw [this]
  have h2 : (65535#16 ^^^ x) = ~~~x := by
    apply BitVec.eq_of_getLsbD_eq
    intro i hi
    have h3 : (65535#16).getLsbD i = true := by
      have : ∀ j : Fin 16, (65535#16).getLsbD j.val = true := by decide
      exact this ⟨i, hi⟩
    rw [BitVec.getLsbD_xor, BitVec.getLsbD_not, h3]
    simp [hi]
  rw [h2, BitVec.toNat_not]
theorem jn_ref (a b : Cf) (x y : F2) : ((jfB a.kd x ||| ~~~a.M) &&& (jfB b.kd y ||| ~~~b.M) &&& (a.M ||| b.M), (facF x ||| ~~~a.M) &&& (facF y ||| ~~~b.M) &&& (a.M ||| b.M) &&& ~~~((jfB a.kd x ||| ~~~a.M) &&& (jfB b.kd y ||| ~~~b.M))) = jnF a b x y := by
  unfold jnF byJ faJ
  dsimp only
  generalize jfB a.kd x = u
  generalize jfB b.kd y = v
  generalize facF x = p
  generalize facF y = q
  generalize a.M = m
  generalize b.M = k
  refine Prod.ext ?_ ?_
  · apply BitVec.eq_of_getLsbD_eq
    intro i hi
    simp only [BitVec.getLsbD_and, BitVec.getLsbD_or, BitVec.getLsbD_not, hi, decide_true, Bool.true_and]
    cases u.getLsbD i <;> cases v.getLsbD i <;> cases m.getLsbD i <;> cases k.getLsbD i <;> rfl
  · apply BitVec.eq_of_getLsbD_eq
    intro i hi
    simp only [BitVec.getLsbD_and, BitVec.getLsbD_or, BitVec.getLsbD_not, hi, decide_true, Bool.true_and]
    cases u.getLsbD i <;> cases v.getLsbD i <;> cases m.getLsbD i <;> cases k.getLsbD i <;> cases p.getLsbD i <;> cases q.getLsbD i <;> rfl
end Go.Proofs.YtijknodekomdfaaGreatDoor
/- The reference's both and Faults (layer 29). -/
namespace Go.Proofs.YtijknodekomdfaaGreatDoor
open Go.RowKit Go.Lib Go.Shelf

theorem blk1 {w : World} {B : Nat} {T : TypeId} {cs : Array Value} (h : Blk w B T cs) (o : Obj) : Blk (w.alloc o) B T cs := h.keep ((Keeps.refl w).alloc o)
end Go.Proofs.YtijknodekomdfaaGreatDoor
