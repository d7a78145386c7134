/- Texts joined into one, what is needed of them (a program of ours). -/
import Derived.Test.YtijknodekomdfaaGreatDoorBKPE
import Derived.Test.YtijknodekomdfaaGreatDoorBKP
import Derived.Test.YtijknodekomdfaaGreatDoorBKS
import Derived.Test.YtijknodekomdfaaGreatDoorBKR
import Derived.Test.YtijknodekomdfaaGreatDoorBKK
import Derived.Test.YtijknodekomdfaaGreatDoorBKY
import Derived.Deep.RegionHeld3
namespace Go.Proofs.YtijknodekomdfaaGreatDoor
open Go.RowKit Go.Lib Go.Shelf

theorem refLeast_mem9 (l : List S) (x : S) : x ∈ refLeast l ↔ x ∈ l ∧ ∀ y ∈ l, sub y x = true → y = x := by
  rw [refLeast_filter, List.mem_filter, (sortS_asc l).2, lone_iff]
  simp only [(sortS_asc l).2]
theorem refLeast_valid {l : List S} (h : ∀ x ∈ l, small x) (hl : l.length ≤ 400) : validS (refLeast l) = 0 := by
  have ha : Asc (refLeast l) := by rw [refLeast_filter]; exact List.Pairwise.filter _ (sortS_asc l).1
  have hn : (refLeast l).length ≤ 400 := by
    have h1 : (refLeast l).length ≤ (sortS' l).length := by rw [refLeast_filter]; exact List.length_filter_le _ _
    have h2 : (sortS' l).length ≤ (msort l).length := compactL_le _
    rw [msort_length] at h2
    omega
  unfold validS
  rw [if_neg (by omega), if_pos ((val1_none _).2 ⟨fun x hx => h x ((refLeast_mem9 l x).1 hx).1, ha⟩)]
  exact (val2_zero _ [] ha).2 fun y hy x hx hxy => ((refLeast_mem9 l y).1 hy).2 x ((refLeast_mem9 l x).1 hx).1 hxy
theorem and_full_lt {n : Nat} (hn : n ≤ 8) (x : S) : (x &&& (1#16 <<< n - 1#16)).toNat < 2 ^ n := by
  rw [BitVec.toNat_and]
  exact Nat.lt_of_le_of_lt Nat.and_le_right (full_lt ⟨n, by omega⟩)
theorem mdN_le (k : KA) : 2 ≤ mdN k ∧ mdN k ≤ 5 := by unfold mdN; omega
theorem mdB_lt (k : KA) : ∀ x ∈ mdB k, x.toNat < 2 ^ mdN k := fun x hx => by
  unfold mdB mdB0 mdA at hx
  obtain ⟨y, _, rfl⟩ := List.mem_map.1 hx
  exact and_full_lt (by have := mdN_le k; omega) y
theorem ins_of_lt {l : List S} {n : Nat} (h : ∀ x ∈ l, x.toNat < 2 ^ n) : insB l n = true := by
  unfold insB
  rw [Bool.not_eq_true']
  refine List.any_eq_false.2 fun x hx => ?_
  have h1 : x >>> n = 0#16 := by
    apply BitVec.eq_of_toNat_eq
    rw [BitVec.toNat_ushiftRight, Nat.shiftRight_eq_div_pow, Nat.div_eq_of_lt (h x hx)]
    rfl
  simp [h1]
end Go.Proofs.YtijknodekomdfaaGreatDoor
namespace Go.Proofs.YtijknodekomdfaaGreatDoor
open Go.RowKit Go.Lib Go.Shelf

theorem bits_xor_u16_nat9 (a b : Nat) (ha : a < 65536) (hb : b < 65536) : bits .xor .u16 (a : Int) (b : Int) = ((a ^^^ b : Nat) : Int) := by
  have hx : a ^^^ b < 2 ^ 16 := Nat.xor_lt_two_pow (by omega) (by omega)
  have h1 : (BitVec.ofInt 16 (a : Int)).toNat = a := by
    rw [BitVec.ofInt_natCast, BitVec.toNat_ofNat]; exact Nat.mod_eq_of_lt (by omega)
  have h2 : (BitVec.ofInt 16 (b : Int)).toNat = b := by
    rw [BitVec.ofInt_natCast, BitVec.toNat_ofNat]; exact Nat.mod_eq_of_lt (by omega)
  show IntKind.u16.wrap ((BitVec.ofInt 16 (a : Int) ^^^ BitVec.ofInt 16 (b : Int)).toNat : Int) = _
  rw [BitVec.toNat_xor, h1, h2, IntKind.wrap_u16]
  omega
@[go_sem] theorem u16_signed9 : IntKind.u16.signed = false := rfl
@[go_sem] theorem sv_compl9 (x : S) : bits .xor .u16 IntKind.u16.max (sv x) = sv (~~~x) := by
  have e : (IntKind.u16.max : Int) = ((65535 : Nat) : Int) := rfl
  have h := bits_xor_u16_nat9 65535 x.toNat (by decide) x.isLt
  rw [e]
  unfold sv
  rw [h, BitVec.toNat_not]
  have : 65535 ^^^ x.toNat = (65535#16 ^^^ x).toNat := by rw [BitVec.toNat_xor]; rfl
  rw [this]
  have h2 : (65535#16 ^^^ x) = ~~~x := by
    apply BitVec.eq_of_getLsbD_eq
    intro i hi
    have h3 : (65535#16).getLsbD i = true := by
      have : ∀ j : Fin 16, (65535#16).getLsbD j.val = true := by decide
      exact this ⟨i, hi⟩
    rw [BitVec.getLsbD_xor, BitVec.getLsbD_not, h3]
    simp [hi]
  rw [h2, BitVec.toNat_not]
end Go.Proofs.YtijknodekomdfaaGreatDoor
