/- 32-bit numbers, and the numbers with k bits (Gosper's sequence). -/
import Derived.Test.YtbiggfbbccpcmaaDoorTz
import Derived.Shelf.Spec.TrailingZeros
namespace Go.Proofs.YtbiggfbbccpcmaaDoor
open Go.RowKit Go.Lib

abbrev U := BitVec 32
def uv (x : U) : Int := x.toNat
theorem uv_bound (x : U) : 0 ≤ uv x ∧ uv x < 4294967296 := by unfold uv; have := x.isLt; omega
theorem uv_inj {x y : U} : uv x = uv y ↔ x = y := by
  unfold uv; constructor
  · intro h; exact BitVec.eq_of_toNat_eq (by omega)
  · rintro rfl; rfl
@[go_sem] theorem uv_and (x y : U) : bits .and .u32 (uv x) (uv y) = uv (x &&& y) := by
  unfold uv; rw [bits_and_u32_nat _ _ x.isLt y.isLt]; simp
theorem bits_or_u32_nat (a b : Nat) (ha : a < 4294967296) (hb : b < 4294967296) : bits .or .u32 (a : Int) (b : Int) = ((a ||| b : Nat) : Int) := by
  have hx : a ||| b < 2 ^ 32 := Nat.or_lt_two_pow (by omega) (by omega)
  have h1 : (BitVec.ofInt 32 (a : Int)).toNat = a := by
    rw [BitVec.ofInt_natCast, BitVec.toNat_ofNat]; exact Nat.mod_eq_of_lt (by omega)
  have h2 : (BitVec.ofInt 32 (b : Int)).toNat = b := by
    rw [BitVec.ofInt_natCast, BitVec.toNat_ofNat]; exact Nat.mod_eq_of_lt (by omega)
  show IntKind.u32.wrap ((BitVec.ofInt 32 (a : Int) ||| BitVec.ofInt 32 (b : Int)).toNat : Int) = _
  rw [BitVec.toNat_or, h1, h2, wrap_u32']
  omega
theorem bits_xor_u32_nat (a b : Nat) (ha : a < 4294967296) (hb : b < 4294967296) : bits .xor .u32 (a : Int) (b : Int) = ((a ^^^ b : Nat) : Int) := by
  have hx : a ^^^ b < 2 ^ 32 := Nat.xor_lt_two_pow (by omega) (by omega)
  have h1 : (BitVec.ofInt 32 (a : Int)).toNat = a := by
    rw [BitVec.ofInt_natCast, BitVec.toNat_ofNat]; exact Nat.mod_eq_of_lt (by omega)
  have h2 : (BitVec.ofInt 32 (b : Int)).toNat = b := by
    rw [BitVec.ofInt_natCast, BitVec.toNat_ofNat]; exact Nat.mod_eq_of_lt (by omega)
  show IntKind.u32.wrap ((BitVec.ofInt 32 (a : Int) ^^^ BitVec.ofInt 32 (b : Int)).toNat : Int) = _
  rw [BitVec.toNat_xor, h1, h2, wrap_u32']
  omega
@[go_sem] theorem uv_or (x y : U) : bits .or .u32 (uv x) (uv y) = uv (x ||| y) := by
  unfold uv; rw [bits_or_u32_nat _ _ x.isLt y.isLt]; simp
@[go_sem] theorem uv_xor (x y : U) : bits .xor .u32 (uv x) (uv y) = uv (x ^^^ y) := by
  unfold uv; rw [bits_xor_u32_nat _ _ x.isLt y.isLt]; simp
@[go_sem] theorem uv_and_1 (x : U) : bits .and .u32 (uv x) 1 = uv (x &&& 1#32) := by
  have : (1 : Int) = uv 1#32 := rfl
  rw [this, uv_and]
@[go_sem] theorem uv_beq (x y : U) : (uv x == uv y) = (x == y) := by
  rw [Bool.eq_iff_iff]; simp [uv_inj]
@[go_sem] theorem uv_beq0 (x : U) : (uv x == 0) = (x == 0#32) := by
  have : (0 : Int) = uv 0#32 := rfl
  rw [this, uv_beq]
@[go_sem] theorem uv_beq1 (x : U) : (uv x == 1) = (x == 1#32) := by
  have : (1 : Int) = uv 1#32 := rfl
  rw [this, uv_beq]
@[go_sem] theorem uv_neg (x : U) : -(uv x) % 4294967296 = uv (-x) := by
  unfold uv; have := x.isLt
  rw [BitVec.toNat_neg]; omega
@[go_sem] theorem uv_add (x y : U) : (uv x + uv y) % 4294967296 = uv (x + y) := by
  unfold uv; rw [BitVec.toNat_add]; omega
@[go_sem] theorem uv_div (x y : U) : uv x / uv y = uv (x / y) := by
  unfold uv; rw [BitVec.toNat_udiv]; simp
@[go_sem] theorem uv_tdiv (x y : U) : (uv x).tdiv (uv y) % 4294967296 = uv (x / y) := by
  have : (uv x).tdiv (uv y) = uv (x / y) := by unfold uv; rw [BitVec.toNat_udiv]; rfl
  rw [this]; have := uv_bound (x / y); omega
@[go_sem] theorem uv_shr2 (x : U) : uv x / (4 : Int) = uv (x >>> 2) := by
  unfold uv; rw [BitVec.toNat_ushiftRight, Nat.shiftRight_eq_div_pow]; simp
@[go_sem] theorem uv_shr (x : U) (n : Nat) : uv x / (2 : Int) ^ n = uv (x >>> n) := by
  unfold uv; rw [BitVec.toNat_ushiftRight, Nat.shiftRight_eq_div_pow]; simp
@[go_sem] theorem uv_shl1 (n : Nat) : 2 ^ n % 4294967296 = uv (1#32 <<< n) := by
  unfold uv; rw [BitVec.toNat_shiftLeft, Nat.shiftLeft_eq]; simp
@[go_sem] theorem uv_sub1 (x : U) : (uv x - 1) % 4294967296 = uv (x - 1#32) := by
  unfold uv; have := x.isLt
  rw [BitVec.toNat_sub]; simp; omega

/-- the next greater number with as many bits -/
def nxt (n : U) : U := (n + (n &&& -n)) ||| (((n ^^^ (n + (n &&& -n))) / (n &&& -n)) >>> 2)
theorem nxt_gt' : ∀ i j : Fin 64, i.val * 64 + j.val ≠ 0 → i.val * 64 + j.val < (nxt (BitVec.ofNat 32 (i.val * 64 + j.val))).toNat ∧ BitVec.ofNat 32 (i.val * 64 + j.val) &&& -BitVec.ofNat 32 (i.val * 64 + j.val) ≠ 0#32 := by decide +kernel
theorem nxt_gt {n : U} (h : n.toNat < 4096) (h0 : n ≠ 0#32) : n.toNat < (nxt n).toNat ∧ n &&& -n ≠ 0#32 := by
  have e : n.toNat / 64 * 64 + n.toNat % 64 = n.toNat := by omega
  have := nxt_gt' ⟨n.toNat / 64, by omega⟩ ⟨n.toNat % 64, by omega⟩
  simp only [e] at this
  have := this (fun e => h0 (BitVec.eq_of_toNat_eq (by simpa using e)))
  simpa using this
/-- the numbers from n on -/
def gosR (m : Nat) : Nat → U → List U
  | 0, _ => []
  | f + 1, n => if n.toNat < 2 ^ m then n :: (if n = 0#32 then [] else gosR m f (nxt n)) else []
theorem gosR_all : ∀ (m : Fin 13) (k : Fin 13), k.val ≤ m.val → (gosR m.val 4096 ((1#32 <<< k.val) - 1#32)).map BitVec.toNat = (List.range (2 ^ m.val)).filter (fun x => cnt (BitVec.ofNat 16 x) == k.val) := by decide +kernel
/-- the set of the members whose bits are set -/
def embG (n : U) : List Nat → Nat → S → S
  | [], _, out => out
  | x :: rest, i, out => embG n rest (i + 1) (if (n >>> i) &&& 1#32 = 1#32 then out ||| (1#16 <<< x) else out)
def emb (mem : List Nat) (n : U) : S := embG n mem 0 0#16
/-- the subsets with k members, as the program finds them -/
def chooseL (s : S) (k : Nat) : List S := (gosR (members s).length 4096 ((1#32 <<< k) - 1#32)).map (emb (members s))
end Go.Proofs.YtbiggfbbccpcmaaDoor
